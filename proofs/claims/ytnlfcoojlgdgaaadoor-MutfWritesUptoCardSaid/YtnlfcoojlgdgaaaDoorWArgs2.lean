/- Chapter 1: pieces that come in. -/
import Derived.Test.YtnlfcoojlgdgaaaDoorWArgs
import Derived.Test.YtnlfcoojlgdgaaaDoorWWrites
import Derived.Test.YtnlfcoojlgdgaaaDoorGXArgs2
import Derived.KernelRfl
namespace Go.Proofs.YtnlfcoojlgdgaaaDoor
open GX Go
theorem u2 : Tryd.prog.underlying 2 = some (.int .i64) := by kernel_rfl
theorem u3 : Tryd.prog.underlying 3 = some (.int .i64) := by kernel_rfl
theorem u5 : Tryd.prog.underlying 5 = some (.int .u8) := by kernel_rfl
theorem u9 : Tryd.prog.underlying 9 = some .string := by kernel_rfl
theorem u22 : Tryd.prog.underlying 22 = some (.slice 5) := by kernel_rfl
theorem u36 : Tryd.prog.underlying 36 = some (.slice 40) := by kernel_rfl
theorem u40 : Tryd.prog.underlying 40 = some (.struct #[⟨"Kind", 3, 0, false, "", "", 0⟩, ⟨"Bytes", 3, 1, false, "", "", 8⟩, ⟨"N", 2, 2, false, "", "", 16⟩, ⟨"Text", 9, 3, false, "", "", 24⟩, ⟨"Raw", 22, 4, false, "", "", 40⟩]) := by kernel_rfl
theorem c2 : Tryd.prog.cellsOf 2 = 1 := by kernel_rfl
theorem c3 : Tryd.prog.cellsOf 3 = 1 := by kernel_rfl
theorem c5 : Tryd.prog.cellsOf 5 = 1 := by kernel_rfl
theorem c9 : Tryd.prog.cellsOf 9 = 1 := by kernel_rfl
theorem c22 : Tryd.prog.cellsOf 22 = 1 := by kernel_rfl
theorem c40 : Tryd.prog.cellsOf 40 = 5 := by kernel_rfl
theorem rdt_int {N g t : Nat} {k : IntKind} {a : AV} (hu : Tryd.prog.underlying t = some (.int k)) (h : Rdt Tryd.prog N (g + 1) t [a]) : ∃ n, a = .int k n ∧ (Lit.int k n).wf = true := by
  unfold Rdt at h; rw [hu] at h
  obtain ⟨n, h1, h2⟩ := h
  exact ⟨n, List.head_eq_of_cons_eq h1, h2⟩
theorem rdt_str {N g : Nat} {a : AV} (h : Rdt Tryd.prog N (g + 1) 9 [a]) : ∃ s, a = .str s ∧ (∀ b ∈ s, b < 256) ∧ s.length ≤ N := by
  unfold Rdt at h; rw [u9] at h
  obtain ⟨n, h1, h2⟩ := h
  exact ⟨n, List.head_eq_of_cons_eq h1, h2⟩
theorem rows_bytes {N g : Nat} : ∀ (rows : List (List AV)), (∀ r ∈ rows, r.length = Tryd.prog.cellsOf 5 ∧ Rdt Tryd.prog N (g + 1) 5 r) → ∃ l, List.flatten rows = sbytes l ∧ l.length = rows.length ∧ ∀ b ∈ l, b < 256
  | [], _ => ⟨[], rfl, rfl, by simp⟩
  | r :: rows, h => by
    obtain ⟨l, h1, h2, h3⟩ := rows_bytes rows (fun r hr => h r (List.mem_cons_of_mem _ hr))
    obtain ⟨h4, h5⟩ := h r (List.mem_cons_self ..)
    rw [c5] at h4
    match r, h4 with
    | [a], _ =>
      obtain ⟨n, rfl, hw⟩ := rdt_int u5 h5
      have hn := wf_u8 hw
      refine ⟨n.toNat :: l, ?_, by simp [h2], fun b hb => ?_⟩
      · rw [List.flatten_cons, h1]
        show AV.int .u8 n :: sbytes l = AV.int .u8 ((n.toNat : Nat) : Int) :: sbytes l
        congr 2
        omega
      · rcases List.mem_cons.1 hb with rfl | hb
        · omega
        · exact h3 b hb
theorem rdt_bytes {N g : Nat} {a : AV} (h : Rdt Tryd.prog N (g + 2) 22 [a]) : ∃ l, (∀ S, Rd S a 1 (sbytes l) l.length) ∧ (∀ b ∈ l, b < 256) ∧ l.length ≤ N := by
  unfold Rdt at h; rw [u22] at h
  obtain ⟨v, rows, h1, h2, h3, h4⟩ := h
  obtain ⟨l, g1, g2, g3⟩ := rows_bytes rows h4
  cases List.head_eq_of_cons_eq h1
  exact ⟨l, fun S => (by rw [c5] at h2; exact (h2 S).eq g1 g2.symm), g3, by omega⟩
theorem part_of {g : Nat} {r : List AV} (h : Rdt Tryd.prog 1048576 (g + 3) 40 r) : ∃ p : PartA, p.cells = r ∧ p.Good := by
  unfold Rdt at h; rw [u40] at h
  obtain ⟨hl, hf⟩ := h
  rw [c40] at hl
  match r, hl with
  | [a0, a1, a2, a3, a4], _ =>
    simp only [List.mem_cons, forall_eq_or_imp, c2, c3, c9, c22, List.drop_zero, List.drop_succ_cons, List.take_succ_cons, List.take_zero] at hf
    obtain ⟨h0, h1, h2, h3, h4, _⟩ := hf
    obtain ⟨n0, rfl, _⟩ := rdt_int u3 h0
    obtain ⟨n1, rfl, _⟩ := rdt_int u3 h1
    obtain ⟨n2, rfl, _⟩ := rdt_int u2 h2
    obtain ⟨s, rfl, hs1, hs2⟩ := rdt_str h3
    obtain ⟨l, hl1, hl2, hl3⟩ := rdt_bytes h4
    exact ⟨⟨n0, n1, n2, s, a4, l⟩, rfl, ⟨hs1, hs2, hl3, hl2, hl1⟩⟩
theorem parts_of {g : Nat} : ∀ (rows : List (List AV)), (∀ r ∈ rows, r.length = Tryd.prog.cellsOf 40 ∧ Rdt Tryd.prog 1048576 (g + 3) 40 r) → ∃ ps : List PartA, List.flatten rows = ps.flatMap PartA.cells ∧ ps.length = rows.length ∧ ∀ p ∈ ps, p.Good
  | [], _ => ⟨[], rfl, rfl, by simp⟩
  | r :: rows, h => by
    obtain ⟨ps, h1, h2, h3⟩ := parts_of rows (fun r hr => h r (List.mem_cons_of_mem _ hr))
    obtain ⟨p, h4, h5⟩ := part_of (h r (List.mem_cons_self ..)).2
    refine ⟨p :: ps, by rw [List.flatten_cons, h1, List.flatMap_cons, h4], by simp [h2], fun q hq => ?_⟩
    rcases List.mem_cons.1 hq with rfl | hq
    · exact h5
    · exact h3 q hq
theorem parts_arg {g : Nat} {a : AV} (h : Rdt Tryd.prog 1048576 (g + 4) 36 [a]) : ∃ ps : List PartA, (∀ S, Rd S a 5 (ps.flatMap PartA.cells) ps.length) ∧ (∀ p ∈ ps, p.Good) ∧ ps.length ≤ 1048576 := by
  unfold Rdt at h; rw [u36] at h
  obtain ⟨v, rows, h1, h2, h3, h4⟩ := h
  obtain ⟨ps, g1, g2, g3⟩ := parts_of rows h4
  cases List.head_eq_of_cons_eq h1
  exact ⟨ps, fun S => (by rw [c40] at h2; exact (h2 S).eq g1 g2.symm), g3, by omega⟩
end Go.Proofs.YtnlfcoojlgdgaaaDoor
