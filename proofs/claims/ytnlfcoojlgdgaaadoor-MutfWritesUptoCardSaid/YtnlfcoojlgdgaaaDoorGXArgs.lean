/- GX: slices that come in as arguments: they are only read. -/
import Derived.Test.YtnlfcoojlgdgaaaDoorGXW4
import Derived.Test.YtnlfcoojlgdgaaaDoorGXTop
namespace GX
open Go
section
variable {P : Program} {X : X}
theorem vrels_ints [Val] {φ : Phi} {k : IntKind} : ∀ (l : List Int), vrels φ (l.map (AV.int k)) (l.map (Value.int k))
  | [] => vrels_nil
  | n :: l => vrels_cons (by simp [vrel]) (vrels_ints l)
theorem veqs_ints {k : IntKind} : ∀ (l : List Int), veqs (l.map (AV.int k)) (l.map (AV.int k)) = true
  | [] => rfl
  | n :: l => by simp only [List.map_cons, veqs, veqs_ints l, veq, ieq_eq]; simp
/-- cells that came in, as a slice that is only read -/
theorem arg_cells [Val] {φ : Phi} {w : World} (hro : ∀ g o, w.heap[g]? = some o → Val.ro g = some o) {a : Addr} {len cap : Nat} {cs : List AV} {vs : List Value} (hl : len ≤ cap) (hv : vs.length = len) (hcell : ∀ i v, vs[i]? = some v → w.cell? (a.add i) = some v) (hrel : vrels φ cs vs) (hself : veqs cs cs = true) :
    ∃ av, vrel φ av (.slice (some a) len cap) ∧ ∀ S, Rd S av 1 cs len := by
  have hcl : cs.length = len := by rw [vrels_length hrel, hv]
  by_cases h0 : len = 0
  · subst h0
    cases List.eq_nil_of_length_eq_zero hcl
    exact ⟨.emp, ⟨a, cap, rfl⟩, fun S => ⟨rfl, rfl, rfl, rfl, rfl, rfl⟩⟩
  · have hsp : a.spot = none ∧ ∃ c t fz, w.heap[a.block]? = some (.cells c t fz) := by
      obtain ⟨v, hv0⟩ : ∃ v, vs[0]? = some v := ⟨_, List.getElem?_eq_getElem (by omega)⟩
      have h := hcell 0 v hv0
      unfold Addr.add World.cell? at h
      simp only [if_true] at h
      split at h
      · rename_i c t fz hh
        split at h
        · cases h
        · rename_i hs
          exact ⟨by simpa using hs, c, t, fz, hh⟩
      · cases h
    obtain ⟨hs, c, t, fz, hh⟩ := hsp
    have hget : ∀ i v, vs[i]? = some v → c[a.off + i]? = some v := by
      intro i v hi
      have h := hcell i v hi
      unfold World.cell? at h
      by_cases hi0 : i = 0
      · subst hi0
        simp only [Addr.add, if_true, hh, hs] at h
        simpa using h
      · simp only [Addr.add, if_neg hi0, hh] at h
        simpa using h
    have hfit : a.off + len ≤ c.size := by
      obtain ⟨v, hv0⟩ : ∃ v, vs[len - 1]? = some v := ⟨_, List.getElem?_eq_getElem (by omega)⟩
      have := (Array.getElem?_eq_some_iff.1 (hget _ _ hv0)).1
      omega
    have hlist : (c.toList.drop a.off).take len = vs := by
      apply List.ext_getElem?
      intro i
      rw [List.getElem?_take]
      split
      · rename_i hi
        obtain ⟨v, hv0⟩ : ∃ v, vs[i]? = some v := ⟨_, List.getElem?_eq_getElem (by omega)⟩
        rw [hv0, List.getElem?_drop]
        simpa using hget i v hv0
      · rw [List.getElem?_eq_none (by omega)]
    refine ⟨.rsl cs len 1, ?_, fun S => ⟨by simp [capW, hcl], by simp [veq, hself], rfl, rfl, ?_, by omega⟩⟩
    · simp only [vrel]
      refine ⟨a.block, a.off, cap, c, t, fz, ?_, hl, by omega, hro _ _ hh, by omega, by rw [hcl, hlist]; exact hrel⟩
      rw [← hs]
    · unfold srcCells; dsimp only
      rw [nble, decide_eq_true (by omega)]
      simp only [nbeq, decide_true, Bool.true_and, cond_true]
      rw [List.take_of_length_le (by omega)]
theorem arg_nil [Val] {φ : Phi} : vrel φ .nils (.slice none 0 0) ∧ ∀ S, Rd S .nils 1 [] 0 := ⟨rfl, fun _ => ⟨rfl, rfl, rfl, rfl, rfl, rfl⟩⟩
theorem arg_ints [Val] {φ : Phi} {k : IntKind} {w : World} (hro : ∀ g o, w.heap[g]? = some o → Val.ro g = some o) {a : Addr} {len cap : Nat} {zs : List Int} (hl : len ≤ cap) (hz : len ≤ zs.length) (hcell : ∀ i, i < zs.length → w.cell? (a.add i) = some (.int k (zs.getD i 0))) :
    ∃ av, vrel φ av (.slice (some a) len cap) ∧ ∀ S, Rd S av 1 ((zs.take len).map (AV.int k)) len := by
  refine arg_cells (vs := (zs.take len).map (Value.int k)) hro hl (by simp; omega) ?_ (vrels_ints _) (veqs_ints _)
  intro i v hi
  rw [List.getElem?_map] at hi
  have hi2 : i < len := by
    rcases Nat.lt_or_ge i len with h | h
    · exact h
    · rw [List.getElem?_eq_none (by simp; omega)] at hi; cases hi
  rw [List.getElem?_take, if_pos hi2, List.getElem?_eq_getElem (by omega)] at hi
  have hc := hcell i (by omega)
  rw [List.getD_eq_getElem?_getD, List.getElem?_eq_getElem (by omega)] at hc
  cases hi
  simpa using hc
/-- bytes that came in -/
theorem arg_bytes [Val] {φ : Phi} {w : World} (hro : ∀ g o, w.heap[g]? = some o → Val.ro g = some o) {a : Addr} {len cap : Nat} {zs : List Int} (hl : len ≤ cap) (hz : len ≤ zs.length) (hcell : ∀ i, i < zs.length → w.cell? (a.add i) = some (.int .u8 (zs.getD i 0))) (hwf : ∀ n ∈ zs, 0 ≤ n ∧ n < 256) :
    ∃ av l, vrel φ av (.slice (some a) len cap) ∧ (∀ S, Rd S av 1 (sbytes l) l.length) ∧ (∀ b ∈ l, b < 256) ∧ l.length = len := by
  obtain ⟨av, h1, h2⟩ := arg_ints (φ := φ) hro hl hz hcell
  have hlen : ((zs.take len).map Int.toNat).length = len := by simp; omega
  refine ⟨av, (zs.take len).map Int.toNat, h1, fun S => (h2 S).eq ?_ hlen.symm, ?_, hlen⟩
  · unfold sbytes
    rw [List.map_map]
    apply List.map_congr_left
    intro n hn
    have := hwf n (List.mem_of_mem_take hn)
    show AV.int .u8 n = AV.int .u8 (Int.ofNat n.toNat)
    congr 1
    show n = ((n.toNat : Nat) : Int)
    omega
  · intro b hb
    obtain ⟨n, hn, rfl⟩ := List.mem_map.1 hb
    have := hwf n (List.mem_of_mem_take hn)
    omega
end
end GX
