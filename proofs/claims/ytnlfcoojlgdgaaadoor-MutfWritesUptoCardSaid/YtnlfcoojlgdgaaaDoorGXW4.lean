/- GX: reasoning about runs: numbers that are not negative; bits. -/
import Derived.Test.YtnlfcoojlgdgaaaDoorGXW3
namespace GX
noncomputable section
open Go
theorem bits_lim (k : IntKind) : lim k ≤ 2 ^ k.bits := by cases k <;> decide
theorem inR_nat {k : IntKind} {a : Nat} (h : a < lim k) : inR k (a : Int) := by
  cases k <;> simp only [inR, lim] at * <;> omega
theorem ibits_nat {k : IntKind} {f : Nat → Nat → Nat} {a b c : Nat} (ha : a < lim k) (hb : b < lim k) (hf : f a b = c) (hc : c < lim k) : ibits k f (a : Int) (b : Int) = (c : Int) := by
  have hl := bits_lim k
  have h1 : ∀ x : Nat, x < lim k → (BitVec.ofInt k.bits (x : Int)).toNat = x := by
    intro x hx
    rw [BitVec.ofInt_natCast, BitVec.toNat_ofNat, Nat.mod_eq_of_lt (by omega)]
  unfold ibits
  rw [h1 a ha, h1 b hb, hf, ← wrp_eq, wrp_in (inR_nat hc)]
theorem lor_add {a b m q : Nat} (hq : 2 ^ m = q) (ha : a % q = 0) (hb : b < q) : Nat.lor a b = a + b := by
  obtain ⟨c, hc⟩ := Nat.dvd_of_mod_eq_zero ha
  subst hc
  subst hq
  show 2 ^ m * c ||| b = _
  rw [Nat.two_pow_add_eq_or_of_lt hb]
theorem land_mask {a m q : Nat} (hq : 2 ^ m = q + 1) : Nat.land a q = a % (q + 1) := by
  have : q = 2 ^ m - 1 := by omega
  show a &&& q = _
  rw [← hq, this, Nat.and_two_pow_sub_one_eq_mod]
section
variable {X : X} {l : L} {S : St} {R : AV → St → Prop} {t u : Nat} {x y : Operand} {k : IntKind} {a b : Nat}
theorem Ev_addN (hx : od l x = some (.int k (a : Int))) (hy : od l y = some (.int k (b : Int))) (h : a + b < lim k) (hR : R (.int k ((a + b : Nat) : Int)) S) : Ev X l S (.binOp .add t x y u) R :=
  Ev_add hx hy (by have := inR_nat h; rwa [Int.natCast_add] at this) (by rwa [Int.natCast_add] at hR)
theorem Ev_subN (hx : od l x = some (.int k (a : Int))) (hy : od l y = some (.int k (b : Int))) (h : a < lim k) (hle : b ≤ a) (hR : R (.int k ((a - b : Nat) : Int)) S) : Ev X l S (.binOp .sub t x y u) R :=
  Ev_sub hx hy (by have := inR_nat (k := k) (a := a - b) (by omega); rwa [Int.natCast_sub hle] at this) (by rwa [Int.natCast_sub hle] at hR)
theorem Ev_mulN (hx : od l x = some (.int k (a : Int))) (hy : od l y = some (.int k (b : Int))) (h : a * b < lim k) (hR : R (.int k ((a * b : Nat) : Int)) S) : Ev X l S (.binOp .mul t x y u) R :=
  Ev_mul hx hy (by have := inR_nat h; rwa [Int.natCast_mul] at this) (by rwa [Int.natCast_mul] at hR)
theorem Ev_lssN (hx : od l x = some (.int k (a : Int))) (hy : od l y = some (.int k (b : Int))) (hR : R (.bool (decide (a < b))) S) : Ev X l S (.binOp .lss t x y u) R :=
  Ev_lss hx hy (by rwa [decide_eq_decide.2 (Int.ofNat_lt (n := a) (m := b))])
theorem Ev_leqN (hx : od l x = some (.int k (a : Int))) (hy : od l y = some (.int k (b : Int))) (hR : R (.bool (decide (a ≤ b))) S) : Ev X l S (.binOp .leq t x y u) R :=
  Ev_leq hx hy (by rwa [decide_eq_decide.2 (Int.ofNat_le (m := a) (n := b))])
theorem Ev_gtrN (hx : od l x = some (.int k (a : Int))) (hy : od l y = some (.int k (b : Int))) (hR : R (.bool (decide (b < a))) S) : Ev X l S (.binOp .gtr t x y u) R :=
  Ev_gtr hx hy (by rwa [decide_eq_decide.2 (Int.ofNat_lt (n := b) (m := a))])
theorem Ev_geqN (hx : od l x = some (.int k (a : Int))) (hy : od l y = some (.int k (b : Int))) (hR : R (.bool (decide (b ≤ a))) S) : Ev X l S (.binOp .geq t x y u) R :=
  Ev_geq hx hy (by rwa [decide_eq_decide.2 (Int.ofNat_le (m := b) (n := a))])
theorem Ev_eqlN (hx : od l x = some (.int k (a : Int))) (hy : od l y = some (.int k (b : Int))) (hR : R (.bool (decide (a = b))) S) : Ev X l S (.binOp .eql t x y u) R :=
  Ev_eql hx hy (by rwa [decide_eq_decide.2 (Int.ofNat_inj (m := a) (n := b))])
theorem Ev_neqN (hx : od l x = some (.int k (a : Int))) (hy : od l y = some (.int k (b : Int))) (hR : R (.bool (decide (a ≠ b))) S) : Ev X l S (.binOp .neq t x y u) R :=
  Ev_neq hx hy (by rwa [decide_eq_decide.2 (not_congr (Int.ofNat_inj (m := a) (n := b)))])
theorem Ev_shrN {k' : IntKind} {m q : Nat} (hx : od l x = some (.int k (a : Int))) (hy : od l y = some (.int k' ((m : Nat) : Int))) (hm : Nat.ble m k.bits = true) (hq : 2 ^ m = q) (hR : R (.int k ((a / q : Nat) : Int)) S) : Ev X l S (.binOp .shr t x y u) R :=
  Ev_shr hx hy hm hq (by rwa [Int.natCast_ediv] at hR)
theorem Ev_shlN {k' : IntKind} {m q : Nat} (hx : od l x = some (.int k (a : Int))) (hy : od l y = some (.int k' ((m : Nat) : Int))) (hm : Nat.ble m k.bits = true) (hq : 2 ^ m = q) (h : a * q < lim k) (hR : R (.int k ((a * q : Nat) : Int)) S) : Ev X l S (.binOp .shl t x y u) R :=
  Ev_shl hx hy hm hq (by have := inR_nat h; rwa [Int.natCast_mul] at this) (by rwa [Int.natCast_mul] at hR)
theorem Ev_andN {q : Nat} (m p : Nat) (hx : od l x = some (.int k (a : Int))) (hy : od l y = some (.int k (q : Int))) (hp : 2 ^ m = p) (hq : p = q + 1) (ha : a < lim k) (hq2 : q < lim k) (hR : R (.int k ((a % p : Nat) : Int)) S) : Ev X l S (.binOp .and t x y u) R :=
  Ev_ibin hx hy ⟨by simp, by simp⟩ (by
    subst hq
    have hq := hp
    unfold ibin; dsimp only
    rw [ibits_nat (f := Nat.land) (c := a % (q + 1)) ha hq2 (land_mask hq) (by have := Nat.mod_le a (q + 1); omega)]) hR
/-- an 'and' by a table of all bytes -/
theorem Ev_and8 {c q : Nat} (hx : od l x = some (.int .u8 (a : Int))) (hy : od l y = some (.int .u8 (q : Int))) (ha : a < 256) (hq : q < 256) (hc : Nat.land a q = c) (hc2 : c < 256) (hR : R (.int .u8 (c : Int)) S) : Ev X l S (.binOp .and t x y u) R :=
  Ev_ibin hx hy ⟨by simp, by simp⟩ (by unfold ibin; dsimp only; rw [ibits_nat (k := .u8) ha hq hc hc2]) hR
theorem Ev_orN (m : Nat) {q : Nat} (hx : od l x = some (.int k (a : Int))) (hy : od l y = some (.int k (b : Int))) (hq : 2 ^ m = q) (ha : a % q = 0) (hb : b < q) (h : a + b < lim k) (hR : R (.int k ((a + b : Nat) : Int)) S) : Ev X l S (.binOp .or t x y u) R :=
  Ev_ibin hx hy ⟨by simp, by simp⟩ (by
    unfold ibin; dsimp only
    rw [ibits_nat (f := Nat.lor) (c := a + b) (by omega) (by omega) (lor_add hq ha hb) h]) hR
theorem Ev_conv8 {s d : Nat} {di si : TI} (hx : od l x = some (.int k (a : Int))) (hs : X.ti s = some si) (hd : X.ti d = some di) (hsd : si.desc = .int k) (hdd : di.desc = .int .u8) (hR : R (.int .u8 ((a % 256 : Nat) : Int)) S) : Ev X l S (.convert s d x) R :=
  Ev_convw hx hs hd hsd hdd (by rw [wrp_u8]; exact hR)
theorem Ev_convN {s d : Nat} {k' : IntKind} {di si : TI} (hx : od l x = some (.int k (a : Int))) (hs : X.ti s = some si) (hd : X.ti d = some di) (hsd : si.desc = .int k) (hdd : di.desc = .int k') (h : a < lim k') (hR : R (.int k' (a : Int)) S) : Ev X l S (.convert s d x) R :=
  Ev_conv hx hs hd hsd hdd (inR_nat h) hR
section
variable {n : Nat} {ks : List Kt} {Q : Ex → Env → St → Prop} {all os : List Oper} {o : Oper}
theorem WO_guard_dt {j d0 : Nat} {q : Oper} {p : Prop} [Decidable p] {d : Nat} (hg : o.guard = some (j, true)) (hp : all[j]? = some q) (hd0 : q.dst = some d0) (hl : lk l d0 = some (.bool (decide p))) (hd : o.dst = some d) (hn : Nat.blt d n = true) (hn' : Nat.blt n 1000001 = true)
    (h1 : p → WO X n all ({ o with guard := none } :: os) ks Q ((d0, .bool true) :: l) S) (h2 : ¬ p → WO X n all os ks Q ((d, .tup []) :: (d0, .bool false) :: l) S) : WO X n all (o :: os) ks Q l S :=
  WO_guard hg hp hd0 hl hd hn hn' (fun h => h1 (of_decide_eq_true h)) (fun h => h2 (of_decide_eq_false h))
theorem WO_guard_df {j d0 : Nat} {q : Oper} {p : Prop} [Decidable p] {d : Nat} (hg : o.guard = some (j, false)) (hp : all[j]? = some q) (hd0 : q.dst = some d0) (hl : lk l d0 = some (.bool (decide p))) (hd : o.dst = some d) (hn : Nat.blt d n = true) (hn' : Nat.blt n 1000001 = true)
    (h1 : ¬ p → WO X n all ({ o with guard := none } :: os) ks Q ((d0, .bool false) :: l) S) (h2 : p → WO X n all os ks Q ((d, .tup []) :: (d0, .bool true) :: l) S) : WO X n all (o :: os) ks Q l S :=
  WO_guard hg hp hd0 hl hd hn hn' (fun h => h1 (of_decide_eq_false h)) (fun h => h2 (of_decide_eq_true h))
end
theorem Rd_lit {S : St} {q el sz m : Nat} {cs : List AV} {sp : Bool} {cap : Cap} (h : S.h.get q = some (.cells el cs sp)) (hm : cs.length = m * sz) (hc : capW (.slice q 0 m cap) sz = true) : Rd S (.slice q 0 m cap) sz cs m := by
  refine ⟨hc, veq_slice _ _ _ _, rfl, rfl, ?_, hm⟩
  unfold srcCells row; dsimp only; rw [h]; dsimp only
  rw [nble, decide_eq_true (by omega)]
  simp only [cond_true, List.drop_zero]; rw [List.take_of_length_le (by omega)]
theorem Own.eq {S : St} {v : AV} {el sz m m' : Nat} {cs cs' : List AV} (h : Own S v el sz cs m) (h1 : cs = cs') (h2 : m = m') : Own S v el sz cs' m' := by subst h1; subst h2; exact h
theorem Rd.eq {S : St} {v : AV} {sz m m' : Nat} {cs cs' : List AV} (h : Rd S v sz cs m) (h1 : cs = cs') (h2 : m = m') : Rd S v sz cs' m' := by subst h1; subst h2; exact h
theorem land_192 {a : Nat} (h : a < 256) : Nat.land a 192 = a / 64 * 64 := by
  have : ∀ a : Fin 256, Nat.land a.1 192 = a.1 / 64 * 64 := by decide +kernel
  exact this ⟨a, h⟩
theorem land_224 {a : Nat} (h : a < 256) : Nat.land a 224 = a / 32 * 32 := by
  have : ∀ a : Fin 256, Nat.land a.1 224 = a.1 / 32 * 32 := by decide +kernel
  exact this ⟨a, h⟩
theorem land_240 {a : Nat} (h : a < 256) : Nat.land a 240 = a / 16 * 16 := by
  have : ∀ a : Fin 256, Nat.land a.1 240 = a.1 / 16 * 16 := by decide +kernel
  exact this ⟨a, h⟩
theorem Rd.cell {S : St} {b o m sz : Nat} {cap : Cap} {cs : List AV} (h : Rd S (.slice b o m cap) sz cs m) : ∃ ty cs0 sp, S.h.get b = some (.cells ty cs0 sp) ∧ o + cs.length ≤ cs0.length ∧ ∀ i, i < cs.length → cs0[o + i]? = cs[i]? := by
  have h1 : row S.h b o (m * sz) = some cs := h.cells
  unfold row at h1
  split at h1
  · rename_i ty cs0 sp hb
    rw [nble, cond_dec] at h1
    split at h1
    · rename_i hle
      cases h1
      have hl : ((cs0.drop o).take (m * sz)).length = m * sz := by simp; omega
      refine ⟨ty, cs0, sp, hb, by rw [hl]; exact hle, fun i hi => ?_⟩
      rw [hl] at hi
      rw [List.getElem?_take, if_pos hi, List.getElem?_drop]
    · cases h1
  · cases h1
/-- a pointer into cells that may be read -/
def Pt (S : St) (p : AV) (cs : List AV) (o : Nat) : Prop :=
  (∃ b o0 ty cs0 sp, p = .ptr b (o0 + o) ∧ S.h.get b = some (.cells ty cs0 sp) ∧ o0 + cs.length ≤ cs0.length ∧ ∀ i, i < cs.length → cs0[o0 + i]? = cs[i]?) ∨ p = .rptr cs o
theorem Pt.keep {S S' : St} {p : AV} {cs : List AV} {o : Nat} (h : Pt S p cs o) (hk : ∀ b, blkOf p = some b → S'.h.get b = S.h.get b) : Pt S' p cs o := by
  rcases h with ⟨b, o0, ty, cs0, sp, h1, h2, h3⟩ | h
  · exact .inl ⟨b, o0, ty, cs0, sp, h1, by rw [hk b (by rw [h1]; rfl)]; exact h2, h3⟩
  · exact .inr h
theorem drop_take_eq {cs0 cs : List AV} {o0 o n : Nat} (h2 : ∀ i, i < cs.length → cs0[o0 + i]? = cs[i]?) (h3 : o + n ≤ cs.length) : (cs0.drop (o0 + o)).take n = (cs.drop o).take n := by
  apply List.ext_getElem?
  intro i
  rw [List.getElem?_take, List.getElem?_take]
  split
  · rw [List.getElem?_drop, List.getElem?_drop, Nat.add_assoc]
    exact h2 (o + i) (by omega)
  · rfl
section
variable {X : _root_.GX.X} {l : L} {S : St} {R : AV → St → Prop} {t : Nat} {x y : Operand}
theorem Ev_indexAddr_rd {v : AV} {k : IntKind} {i m : Nat} {ti ei : TI} {el : Nat} {cs : List AV} (hy : od l y = some (.int k ((i : Nat) : Int))) (hx : od l x = some v) (hi : X.ti t = some ti) (hd : ti.desc = .slice el) (he' : X.ti el = some ei) (hrd : Rd S v ei.size cs m) (hlt : i < m)
    (hR : ∀ p, Pt S p cs (i * ei.size) → R p S) : Ev X l S (.indexAddr t x y) R := by
  have hc := hrd.cells
  have hl := hrd.len
  cases v with
  | slice b o n cap =>
    cases hl
    obtain ⟨ty, cs0, sp, h1, h2, h3⟩ := hrd.cell
    exact Ev_indexAddr hy hx hi hd he' hlt (hR _ (.inl ⟨b, o, ty, cs0, sp, rfl, h1, h2, h3⟩))
  | rsl cs0 n z =>
    cases hl
    have hz : z = ei.size ∧ cs0.length = m * z := by have := hrd.cap; simpa [capW] using this
    obtain ⟨hz, hl0⟩ := hz
    subst hz
    have hcs : cs = cs0 := by
      unfold srcCells at hc; dsimp only at hc
      rw [nbeq, nble, ← Bool.decide_and, cond_dec] at hc
      split at hc
      · cases hc; rw [List.take_of_length_le (by omega)]
      · cases hc
    subst hcs
    refine Ev_pure (v := .rptr cs (i * ei.size)) (fun e he => ⟨rfl, ?_⟩) (hR _ (.inr rfl))
    unfold pureOp; dsimp only; rw [od_ok he hy]; show (match opd e x with | some (.slice b o len _) => _ | some (.rsl cs len sz) => _ | _ => none) = _
    rw [od_ok he hx]; dsimp only; rw [hi]; dsimp only; rw [hd]; dsimp only; rw [he']; dsimp only; rw [nblt, nbeq, decide_eq_true hlt, decide_eq_true rfl]; rfl
  | nils => cases hl; omega
  | emp => cases hl; omega
  | _ => cases hl
theorem Ev_load_pt {p : AV} {o : Nat} {i : TI} {cs : List AV} {v : AV} (hx : od l x = some p) (hi : X.ti t = some i) (hag : aggD i.desc = false) (hp : Pt S p cs o) (hv : cs[o]? = some v) (hvv : veq v v = true) (hR : R v S) : Ev X l S (.load t x) R := by
  have hlt := (List.getElem?_eq_some_iff.1 hv).1
  rcases hp with ⟨b, o0, ty, cs0, sp, rfl, h2, h3, h4⟩ | rfl
  · exact Ev_load hx hi hag h2 (by rw [h4 o hlt]; exact hv) hvv hR
  · refine Ev_read (fun e he => ⟨rfl, ?_⟩) hvv hR
    unfold readOp; dsimp only; rw [od_ok he hx]; dsimp only; unfold loadR; rw [hi]; dsimp only
    split
    · rename_i h; rw [h] at hag; cases hag
    · rename_i h; rw [h] at hag; cases hag
    · exact hv
theorem Ev_load_pt_agg {p : AV} {o : Nat} {i : TI} {cs ds : List AV} (hx : od l x = some p) (hi : X.ti t = some i) (hag : aggD i.desc = true) (hp : Pt S p cs o) (hle : o + i.size ≤ cs.length) (hv : (cs.drop o).take i.size = ds) (hvv : veqs ds ds = true) (hR : R (.agg ds) S) : Ev X l S (.load t x) R := by
  rcases hp with ⟨b, o0, ty, cs0, sp, rfl, h2, h3, h4⟩ | rfl
  · exact Ev_load_agg hx hi hag h2 (by omega) (by rw [drop_take_eq h4 hle]; exact hv) hvv hR
  · refine Ev_read (v := .agg ds) (fun e he => ⟨rfl, ?_⟩) (by unfold veq; exact hvv) hR
    unfold readOp; dsimp only; rw [od_ok he hx]; dsimp only; unfold loadR; rw [hi]; dsimp only
    split
    · rw [nble, decide_eq_true hle]; simp only [cond_true]; rw [hv]
    · rw [nble, decide_eq_true hle]; simp only [cond_true]; rw [hv]
    · rename_i h1 h2
      cases hd : i.desc with
      | struct f => exact absurd hd (h1 f)
      | array a b => exact absurd hd (h2 a b)
      | _ => rw [hd] at hag; cases hag
theorem Ev_fieldAddr_pt {p : AV} {f o : Nat} {i fi : TI} {fs : Array Field} {fd : Field} {cs : List AV} (hx : od l x = some p) (hi : X.ti t = some i) (hd : i.desc = .struct fs) (hf : fs.toList[f]? = some fd) (hfi : X.ti fd.type = some fi) (hz : Nat.beq fi.size 0 = false) (hp : Pt S p cs o)
    (hR : ∀ p', Pt S p' cs (o + fd.offset) → R p' S) : Ev X l S (.fieldAddr t x f) R := by
  rcases hp with ⟨b, o0, ty, cs0, sp, rfl, h2, h3, h4⟩ | rfl
  · exact Ev_fieldAddr hx hi hd hf hfi hz (hR _ (.inl ⟨b, o0, ty, cs0, sp, by rw [Nat.add_assoc], h2, h3, h4⟩))
  · exact Ev_pure (fun e he => ⟨rfl, by unfold pureOp; dsimp only; rw [od_ok he hx]; dsimp only; rw [hi]; dsimp only; rw [hd]; dsimp only; rw [hf]; dsimp only; rw [hfi]; dsimp only; rw [hz]; rfl⟩) (hR _ (.inr rfl))
end
theorem veqs_sbytes : ∀ (l : List Nat), veqs (sbytes l) (sbytes l) = true
  | [] => rfl
  | a :: l => by
    show veqs (AV.int .u8 (.ofNat a) :: sbytes l) (AV.int .u8 (.ofNat a) :: sbytes l) = true
    simp only [veqs, veqs_sbytes l, veq, ieq_eq]; simp
/-- bytes that came in -/
theorem Rd_rsl (S : St) (l : List Nat) : Rd S (.rsl (sbytes l) l.length 1) 1 (sbytes l) l.length := by
  refine ⟨by simp [capW, sbytes], by simp [veq, veqs_sbytes], rfl, rfl, ?_, by simp [sbytes]⟩
  unfold srcCells; dsimp only
  rw [nble, decide_eq_true (by simp [sbytes])]
  simp only [nbeq, decide_true, Bool.true_and, cond_true]
  rw [List.take_of_length_le (by simp [sbytes])]
theorem sbytes_get {l : List Nat} {i : Nat} (h : i < l.length) : (sbytes l)[i]? = some (.int .u8 ((l.getD i 0 : Nat) : Int)) := by
  unfold sbytes
  rw [List.getElem?_map, List.getElem?_eq_getElem h, List.getD_eq_getElem?_getD, List.getElem?_eq_getElem h]; rfl
theorem getD_lt {l : List Nat} {i n : Nat} (h : ∀ c ∈ l, c < n) (hn : 0 < n) : l.getD i 0 < n := by
  rw [List.getD_eq_getElem?_getD]
  cases hi : l[i]? with
  | none => exact hn
  | some c => exact h c (List.mem_of_getElem? hi)
theorem veq_int (k : IntKind) (n : Int) : veq (.int k n) (.int k n) = true := by simp [veq, ieq_eq]
theorem veq_str (s : List Nat) : veq (.str s) (.str s) = true := by simp [veq, seq_eq]
theorem veq_ptr (b o : Nat) : veq (.ptr b o) (.ptr b o) = true := by simp [veq]
theorem sbytes_app (a b : List Nat) : sbytes (a ++ b) = sbytes a ++ sbytes b := List.map_append
theorem sbytes_len (a : List Nat) : (sbytes a).length = a.length := List.length_map _
theorem sbytes_one (a : List Nat) : (sbytes a).all AV.one = true := by
  apply List.all_eq_true.2; intro x hx; obtain ⟨c, _, rfl⟩ := List.mem_map.1 hx; rfl
end
end
end GX
