/- What the row leans on, part 14: texts one behind the other. No condition. -/
import Derived.Test.YthhbnnnokmefoaaDoorMg13
import Derived.KernelRfl
import Derived.Test.YthhbnnnokmefoaaDoorMg11
/- caraferef1.Reader.Text. -/

namespace Go.Proofs.YthhbnnnokmefoaaDoor
open GX
set_option maxHeartbeats 8000000
theorem refuse_zero (r : RdS) (a : Int) : r.refuse 0 a = r := by unfold RdS.refuse; rw [if_neg (fun h => h.2 rfl)]
theorem take_err2 {r : RdS} {b : List Nat} {n : Nat} (h : (r.take b n).2.err ≠ 0) : (r.take b n).1 = [] := by
  unfold RdS.take at h ⊢
  split at h <;> rename_i h1
  · rw [if_pos h1]
  · rw [if_neg h1]
    split at h <;> rename_i h2
    · rw [if_pos h2]
    · exact absurd h h1
theorem qtext_runs {S : St} {p : Nat} {vb : AV} {b : List Nat} {r : RdS} (hok : Sok S) (h : Rq S p vb b r) (hb : b.length ≤ 10000000) (hn : S.n ≤ 800000000) (hlt : ∀ x ∈ b, x < 256) :
    Runs X1 57 [.ptr p 0] S fun v S' => v = .str (r.text b).1 ∧ Rq S' p vb b (r.text b).2 ∧ FrQ S S' p 6000 := by
  refine Runs_fn (m := 38) (by kernel_rfl) Tryd.func57 rfl (by kernel_rfl) (by kernel_rfl) ?_
  repeat (
    first
      | refine W_seq ?_
      | refine WO_nil ?_
      | refine V_seq ?_
      | refine W_region ?_
      | refine WO_dst rfl rfl (by kernel_rfl) (by kernel_rfl) ?_
      | refine Ev_move rfl ?_
      | refine Ev_assign rfl ?_)
  refine Ev_call rfl rfl ((qnum_runs hok h (by omega) (by omega) hlt).mono ?_)
  rintro _ S1 - ⟨rfl, h1, hF1⟩
  rw [size2] at h1 ⊢
  have hx2 := take_len r b 2
  have hxb := take_lt (r := r) (n := 2) hlt
  have hnl := numOf_lt _ _ rfl hxb
  have hpw : 256 ^ (r.take b 2).1.length ≤ 65536 := Nat.pow_le_pow_right (n := 256) (by omega) hx2
  rw [numV_small (by omega)]
  obtain ⟨m, hm⟩ : ∃ m, m = numOf (r.take b 2).1 := ⟨_, rfl⟩
  obtain ⟨r1, hr1⟩ : ∃ r1, r1 = (r.take b 2).2 := ⟨_, rfl⟩
  rw [← hm] at hnl ⊢
  rw [← hr1] at h1
  have hn1 := hF1.n
  repeat' (
    first
      | refine W_seq ?_
      | refine WO_nil ?_
      | refine V_seq ?_
      | refine W_region ?_
      | refine W_skip ?_
      | refine WO_dst rfl rfl (by kernel_rfl) (by kernel_rfl) ?_
      | refine Ev_load rfl rfl rfl h1.cell rfl (veq_int _ _) ?_
      | refine Ev_move rfl ?_
      | refine Ev_assign rfl ?_
      | refine Ev_gtrN rfl rfl ?_
      | refine Ev_nilCheck rfl ?_
      | refine Ev_fieldAddr rfl rfl rfl rfl rfl rfl ?_
      | (refine W_cond rfl (fun hc => ?_) (fun hc => ?_) <;> (try dsimp only at hc) <;> try (exfalso; first | omega | exact hc rfl)))
  · refine Ev_call rfl rfl ((qrefuse_runs hF1.ok h1 (by omega) (by decide)).mono ?_)
    rintro _ S2 - ⟨h2, hF2⟩
    repeat (
      first
        | refine W_seq ?_
        | refine WO_nil ?_
        | refine V_seq ?_
        | refine W_region ?_
        | refine W_ret ?_
        | refine V_ret ?_
        | refine WO_dst rfl rfl (by kernel_rfl) (by kernel_rfl) ?_
        | refine Ev_assign rfl ?_)
    refine V_done rfl rfl ?_
    have e : r.text b = ([], r1.refuse 3 (r1.pos : Int)) := by
      unfold RdS.text; dsimp only; rw [← hm, ← hr1, if_pos hc, take_err (refuse_err (by decide))]
      dsimp only
      rw [decS_nil, show (some ([] : List Nat)).isSome = true from rfl, if_pos rfl, refuse_zero]; rfl
    rw [e]
    have hq := hF1.trans hF2.q
    exact ⟨rfl, h2, ⟨hq.le, by have := hq.n; omega, hq.ok, hq.same⟩⟩
  · refine Ev_call rfl rfl ((qbytes_runs hF1.ok h1 (by omega) (by omega) (by omega)).mono ?_)
    rintro v S3 - ⟨h3, hF3, hv3, -⟩
    rw [Int.toNat_natCast] at h3 hv3
    obtain ⟨u, hu⟩ : ∃ u, u = (RdS.take r1 b m).1 := ⟨_, rfl⟩
    obtain ⟨r3, hr3⟩ : ∃ r3, r3 = (RdS.take r1 b m).2 := ⟨_, rfl⟩
    rw [← hu] at hv3
    rw [← hr3] at h3
    have hul : u.length ≤ 256 := by have := take_len r1 b m; rw [← hu] at this; omega
    have hub : ∀ x ∈ u, x < 256 := by rw [hu]; exact take_lt hlt
    have hn3 := hF3.n
    have e : r.text b = ((decS u).getD [], r3.refuse (if (decS u).isSome = true then 0 else 12) (r3.pos : Int)) := by
      unfold RdS.text; dsimp only; rw [← hm, ← hr1, if_neg hc, ← hu, ← hr3]
    rw [e]
    have hq := hF1.trans hF3
    repeat' (
      first
        | refine W_seq ?_
        | refine WO_nil ?_
        | refine V_seq ?_
        | refine W_region ?_
        | refine W_skip ?_
        | refine W_ret ?_
        | refine V_ret ?_
        | refine WO_dst rfl rfl (by kernel_rfl) (by kernel_rfl) ?_
        | refine Ev_load rfl rfl rfl h3.cell rfl (veq_bool _) ?_
        | refine Ev_move rfl ?_
        | refine Ev_assign rfl ?_
        | refine Ev_nilCheck rfl ?_
        | refine Ev_fieldAddr rfl rfl rfl rfl rfl rfl ?_
        | (refine W_cond rfl (fun hc => ?_) (fun hc => ?_) <;> (try dsimp only at hc) <;> try (exfalso; first | omega | exact hc rfl)))
    · have he := hc
      refine V_done rfl rfl ?_
      have hu0 : u = [] := by rw [hu]; exact take_err2 (by rw [← hr3]; exact he)
      rw [hu0, decS_nil, show (some ([] : List Nat)).isSome = true from rfl, if_pos rfl, refuse_zero]
      exact ⟨rfl, h3, ⟨hq.le, by have := hq.n; omega, hq.ok, hq.same⟩⟩
    · refine Ev_call rfl rfl ((rdec_runs hF3.ok hv3 hub (by omega) (by omega)).mono ?_)
      rintro _ S4 - ⟨hF4, rfl⟩
      have h4 := h3.fr hF3.ok hF4
      have hq4 := hq.trans hF4.q
      have hn4 := hF4.n
      by_cases hs : (decS u).isSome = true
      · rw [if_pos hs, refuse_zero]
        repeat' (
          first
            | refine W_seq ?_
            | refine WO_nil ?_
            | refine V_seq ?_
            | refine W_region ?_
            | refine W_skip ?_
            | refine W_ret ?_
            | refine W_cond_f rfl ?_
            | refine WO_dst rfl rfl (by kernel_rfl) (by kernel_rfl) ?_
            | refine Ev_move rfl ?_
            | refine Ev_assign rfl ?_
            | refine Ev_extract rfl rfl ?_
            | refine Ev_neqN rfl rfl ?_)
        refine V_done rfl rfl ?_
        exact ⟨rfl, h4, ⟨hq4.le, by have := hq4.n; omega, hq4.ok, hq4.same⟩⟩
      · rw [if_neg hs]
        repeat' (
          first
            | refine W_seq ?_
            | refine WO_nil ?_
            | refine V_seq ?_
            | refine W_region ?_
            | refine W_cond_t rfl ?_
            | refine WO_dst rfl rfl (by kernel_rfl) (by kernel_rfl) ?_
            | refine Ev_load rfl rfl rfl h4.cell rfl (veq_int _ _) ?_
            | refine Ev_move rfl ?_
            | refine Ev_assign rfl ?_
            | refine Ev_extract rfl rfl ?_
            | refine Ev_neqN rfl rfl ?_
            | refine Ev_nilCheck rfl ?_
            | refine Ev_fieldAddr rfl rfl rfl rfl rfl rfl ?_)
        refine Ev_call rfl rfl ((qrefuse_runs hF4.ok h4 (by omega) (by decide)).mono ?_)
        rintro _ S5 - ⟨h5, hF5⟩
        have hq5 := hq4.trans hF5.q
        repeat (
          first
            | refine W_seq ?_
            | refine WO_nil ?_
            | refine V_seq ?_
            | refine W_region ?_
            | refine W_ret ?_
            | refine WO_dst rfl rfl (by kernel_rfl) (by kernel_rfl) ?_
            | refine Ev_move rfl ?_
            | refine Ev_assign rfl ?_)
        refine V_done rfl rfl ?_
        exact ⟨rfl, h5, ⟨hq5.le, by have := hq5.n; omega, hq5.ok, hq5.same⟩⟩
end Go.Proofs.YthhbnnnokmefoaaDoor
/- Chapter 3: the bytes of right constants are read as these: the plain law. -/



namespace Go.Proofs.YthhbnnnokmefoaaDoor
open GX
set_option maxHeartbeats 8000000
theorem take_at {b a rest : List Nat} {pos n : Nat} (h : b.drop pos = a ++ rest) (hn : a.length = n) : RdS.take ⟨pos, 0, 0⟩ b n = (a, ⟨pos + n, 0, 0⟩) ∧ b.drop (pos + n) = rest := by
  have hl := congrArg List.length h
  simp only [List.length_drop, List.length_append] at hl
  constructor
  · unfold RdS.take
    rw [if_neg (by simp), if_neg (by dsimp only; omega)]
    dsimp only
    rw [h, List.take_append_of_le_length (by omega), List.take_of_length_le (by omega)]
  · rw [← List.drop_drop, h, ← hn, List.drop_left]
theorem numOf_from : ∀ (m : List Nat) (a : Nat), m.foldl (fun a x => a * 256 + x) a = a * 256 ^ m.length + numOf m
  | [], a => by simp [numOf]
  | x :: m, a => by
    unfold numOf
    simp only [List.foldl_cons, List.length_cons]
    rw [numOf_from m (a * 256 + x), numOf_from m (0 * 256 + x), Nat.pow_succ, Nat.add_mul, Nat.mul_assoc, Nat.mul_comm 256, Nat.zero_mul, Nat.zero_add]; omega
theorem numOf_app (l m : List Nat) : numOf (l ++ m) = numOf l * 256 ^ m.length + numOf m := by
  conv => lhs; unfold numOf
  rw [List.foldl_append, numOf_from]; rfl
theorem emod_256 (n : Int) (q : Nat) : n % ((q * 256 : Nat) : Int) = n / (q : Int) % 256 * (q : Int) + n % (q : Int) := by
  have h1 : n / (q : Int) / 256 = n / ((q : Int) * 256) := by rw [Int.ediv_ediv, if_neg (fun h => by omega), Int.sub_zero]
  rw [Int.natCast_mul, show ((256 : Nat) : Int) = 256 from rfl, Int.emod_def n, Int.emod_def n (q : Int), Int.emod_def (n / (q : Int)), ← h1, Int.sub_mul, Int.mul_assoc (q : Int)]
  have e1 : 256 * (n / (q : Int) / 256) * (q : Int) = (q : Int) * (256 * (n / (q : Int) / 256)) := Int.mul_comm _ _
  have e2 : n / (q : Int) * (q : Int) = (q : Int) * (n / (q : Int)) := Int.mul_comm _ _
  rw [e1, e2]; omega
theorem numOf_numL (n : Int) : ∀ j, ((numOf (numL n j) : Nat) : Int) = n % ((256 ^ j : Nat) : Int) := by
  intro j
  induction j with
  | zero => simp [numL, numOf]
  | succ j ih =>
    have e : numL n (j + 1) = [byteAt n j] ++ numL n j := rfl
    rw [e, numOf_app, numL_len, show numOf [byteAt n j] = byteAt n j by simp [numOf], Int.natCast_add, ih, Int.natCast_mul]
    have hb : ((byteAt n j : Nat) : Int) = n / ((256 ^ j : Nat) : Int) % 256 := by
      unfold byteAt
      rw [show (2 ^ (8 * j) : Nat) = 256 ^ j by rw [Nat.pow_mul]]
      have : 0 ≤ n / ((256 ^ j : Nat) : Int) % 256 := by omega
      omega
    rw [hb, Nat.pow_succ, emod_256]
theorem numV_4 {n : Nat} (h : n < 4294967296) : numV (numL (n : Int) 4) = (n : Int) := by
  unfold numV
  rw [numOf_numL, show ((256 ^ 4 : Nat) : Int) = 4294967296 from rfl, Int.emod_eq_of_lt (by omega) (by omega)]
  exact wrp_in (by simp only [inR]; omega)
theorem numV_i {n : Int} (h1 : -2147483648 ≤ n) (h2 : n < 2147483648) : wrp .i32 (numV (numL n 4)) = n := by
  unfold numV
  rw [numOf_numL, show ((256 ^ 4 : Nat) : Int) = 4294967296 from rfl, wrp_in (k := .i64) (by simp only [inR]; omega), wrp_eq]
  show IntKind.wrap .i32 (n % 4294967296) = n
  simp [IntKind.wrap, IntKind.signed, IntKind.bits]
  split <;> omega
theorem numV_1 {n : Int} (h1 : 0 ≤ n) (h2 : n < 256) : numV (numL n 1) = n := by
  unfold numV
  rw [numOf_numL, show ((256 ^ 1 : Nat) : Int) = 256 from rfl, Int.emod_eq_of_lt (by omega) (by omega)]
  exact wrp_in (by simp only [inR]; omega)
theorem numOf_2 {n : Nat} (h : n < 65536) : numOf (numL (n : Int) 2) = n := by
  have := numOf_numL (n : Int) 2
  rw [show ((256 ^ 2 : Nat) : Int) = 65536 from rfl] at this
  omega
/-! texts of bytes below 128, without a 0 -/
def ascP (s : List Nat) : Prop := ∀ c ∈ s, 0 < c ∧ c < 128
theorem asc_ok {s : List Nat} (h : ascP s) : ∀ c ∈ s, okR c := fun c hc => by have := h c hc; unfold okR; omega
theorem asc_txt : ∀ {s : List Nat}, ascP s → txt s = s
  | [], _ => rfl
  | c :: s, h => by
    have h1 := h c (List.mem_cons_self ..)
    have h2 := asc_txt (s := s) (fun d hd => h d (List.mem_cons_of_mem _ hd))
    show runeL c ++ txt s = _
    rw [h2]; unfold runeL; rw [if_pos (by omega)]; rfl
theorem asc_enc1 : ∀ {s : List Nat}, ascP s → s.flatMap enc1 = s
  | [], _ => rfl
  | c :: s, h => by
    have h1 := h c (List.mem_cons_self ..)
    have h2 := asc_enc1 (s := s) (fun d hd => h d (List.mem_cons_of_mem _ hd))
    rw [List.flatMap_cons, h2]; unfold enc1 unitL; rw [if_neg (by omega), if_pos h1]; rfl
theorem asc_text {s : List Nat} (h : ascP s) : vS s = true ∧ encS s = s ∧ decS s = some s := by
  have h1 := vS_txt (asc_ok h) (t := []) (by simp)
  have h2 := encS_txt (asc_ok h) []
  have h3 := dec_encs (asc_ok h)
  rw [List.append_nil, asc_txt h] at h1
  rw [List.append_nil, encS_nil, List.append_nil, asc_txt h, asc_enc1 h] at h2
  rw [asc_enc1 h, asc_txt h] at h3
  exact ⟨by rw [h1]; exact vS_nil, h2, h3⟩
theorem textL_a {s : List Nat} (h : ascP s) (hl : s.length ≤ 256) : textL s = numL (s.length : Int) 2 ++ s := by
  obtain ⟨h1, h2, _⟩ := asc_text h
  unfold textL textB
  rw [h2, if_pos ⟨h1, hl⟩]
theorem text_at {b rest s : List Nat} {pos : Nat} (ha : ascP s) (hl : s.length ≤ 256) (h : b.drop pos = textL s ++ rest) : RdS.text ⟨pos, 0, 0⟩ b = (s, ⟨pos + (textL s).length, 0, 0⟩) ∧ b.drop (pos + (textL s).length) = rest := by
  obtain ⟨h1, h2, h3⟩ := asc_text ha
  rw [textL_a ha hl, List.append_assoc] at h
  obtain ⟨e1, d1⟩ := take_at h (numL_len _ 2)
  obtain ⟨e2, d2⟩ := take_at d1 rfl
  have e : (textL s).length = 2 + s.length := by rw [textL_a ha hl, List.length_append, numL_len]
  rw [e, ← Nat.add_assoc]
  refine ⟨?_, d2⟩
  unfold RdS.text
  dsimp only
  rw [e1]
  dsimp only
  rw [numOf_2 (by omega), if_neg (by omega), e2]
  dsimp only
  rw [h3]
  simp [refuse_zero]
theorem asc_app {s t : List Nat} (h1 : ascP s) (h2 : ascP t) : ascP (s ++ t) := fun c hc => (List.mem_append.1 hc).elim (h1 c) (h2 c)
theorem asc_cons {c : Nat} {s : List Nat} (h1 : 0 < c ∧ c < 128) (h2 : ascP s) : ascP (c :: s) := fun d hd => (List.mem_cons.1 hd).elim (fun e => by rw [e]; exact h1) (h2 d)
theorem asc_nil : ascP [] := fun c hc => by cases hc
theorem asc_name {s : List Nat} (h : nameP s) : ascP s := fun c hc => ⟨(name_c h c hc).2.2.2, (name_c h c hc).2.2.1⟩
theorem asc_base1 : ∀ s : List Nat, ascP (s.take (base1 s))
  | [] => asc_nil
  | c :: r => by
    rw [base1_cons]
    split
    · rename_i h; subst h; exact asc_cons (by omega) asc_nil
    · split
      · rename_i h; subst h
        split
        · rename_i k hk
          split
          · rename_i hn
            have h2 := (semi_some hk).2.1
            have h1 := (semi_some hk).1
            rw [List.take_succ_cons]
            refine asc_cons (by omega) ?_
            rw [h2, List.take_append]
            refine asc_app ?_ ?_
            · rw [List.take_take]
              exact fun c hc => asc_name hn c (List.take_subset_take_left _ (Nat.min_le_right _ _) hc)
            · rw [List.length_take, Nat.min_eq_left (by omega), show k + 1 - k = 1 by omega]
              exact asc_cons (by omega) asc_nil
          · exact asc_nil
        · exact asc_nil
      · exact asc_nil
theorem asc_oneS (s : List Nat) : ascP (s.take (oneS s)) := by
  cases s with
  | nil => exact asc_nil
  | cons c r =>
    rw [oneS_cons]
    split
    · rename_i h; subst h
      split
      · exact asc_nil
      · rw [List.take_succ_cons]; exact asc_cons (by omega) (asc_base1 r)
    · exact asc_base1 _
theorem asc_field {s : List Nat} (h : fieldP s) : ascP s := by
  have := asc_oneS s
  rw [h.2, List.take_length] at this; exact this
theorem asc_fields : ∀ (k : Nat) (s : List Nat), ascP (fieldsM k s).2 → ascP s
  | 0, s, h => h
  | k + 1, s, h => by
    rw [fieldsM_s] at h
    by_cases h0 : oneS s = 0
    · rw [if_pos h0] at h; exact h
    · rw [if_neg h0] at h
      have h1 := asc_fields k _ h
      rw [← List.take_append_drop (oneS s) s]
      exact asc_app (asc_oneS s) h1
theorem take1 {s : List Nat} {c : Nat} (h : s.take 1 = [c]) : s = c :: s.drop 1 := by
  rw [← List.take_append_drop 1 s, h]; simp
theorem asc_meth {s : List Nat} (h : (methS s).isSome = true) : ascP s := by
  unfold methS at h
  split at h
  · rename_i g
    obtain ⟨g1, g2, g3⟩ := g
    rw [take1 g1]
    refine asc_cons (by omega) (asc_fields 8 _ ?_)
    rw [take1 g2]
    refine asc_cons (by omega) ?_
    rcases g3 with g | g
    · rw [g]; exact asc_cons (by omega) asc_nil
    · exact asc_field g
  · cases h
theorem right_asc {c : CnA} (h : rightP c) : ascP c.cl ∧ ascP c.nm ∧ ascP c.ds := by
  rcases h with ⟨_, h1, h2, h3⟩ | ⟨_, _, h1, h2, h3⟩ | ⟨_, h1, _, _, h2, h3⟩ | ⟨_, h1, _, h2, h3⟩
  · rw [h1, h2, h3]; exact ⟨asc_nil, asc_nil, asc_nil⟩
  · rw [h2, h3]
    exact ⟨h1.elim (fun g => asc_field g.2) asc_name, asc_nil, asc_nil⟩
  · exact ⟨asc_name h2, asc_name h3, asc_meth h1⟩
  · exact ⟨asc_name h2, asc_name h3, asc_field h1⟩
/-! a reader of constants -/
noncomputable def ckind (b : List Nat) (r : RdS) : Int := numV (r.take b 1).1
/-- what is read as one constant, and the reader behind it -/
noncomputable def cstep (b : List Nat) (r : RdS) : CnA × RdS :=
  if ckind b r = 3 then (⟨3, wrp .i32 (numV ((r.take b 1).2.take b 4).1), [], [], []⟩, ((r.take b 1).2.take b 4).2)
  else if ckind b r = 9 ∨ ckind b r = 10 then
    (⟨ckind b r, 0, ((r.take b 1).2.text b).1, (((r.take b 1).2.text b).2.text b).1, ((((r.take b 1).2.text b).2.text b).2.text b).1⟩, ((((r.take b 1).2.text b).2.text b).2.text b).2)
  else if ckind b r = 7 then (⟨7, 0, ((r.take b 1).2.text b).1, [], []⟩, ((r.take b 1).2.text b).2)
  else (⟨ckind b r, 0, [], [], []⟩, (r.take b 1).2.refuse 12 ((r.take b 1).2.pos : Int))
noncomputable def cnext (b : List Nat) (r : RdS) : RdS := if rightP (cstep b r).1 then (cstep b r).2 else (cstep b r).2.refuse 14 ((cstep b r).2.pos : Int)
noncomputable def cloop (b : List Nat) : Nat → RdS → List CnA → List CnA × RdS
  | 0, r, l => (l, r)
  | n + 1, r, l => if (cnext b r).err ≠ 0 then ([], cnext b r) else cloop b n (cnext b r) (l ++ [(cstep b r).1])
noncomputable def chead (b : List Nat) (r : RdS) : RdS := if 256 < numOf (r.take b 2).1 then (r.take b 2).2.refuse 4 ((r.take b 2).2.pos : Int) else (r.take b 2).2
/-- what is read as a pool, and the reader behind it -/
noncomputable def readS (b : List Nat) (r : RdS) : List CnA × RdS := if (chead b r).err ≠ 0 then ([], chead b r) else cloop b (numOf (r.take b 2).1) (chead b r) []
theorem constL_3 {c : CnA} (h : c.kind = 3) : constL c = numL c.kind 1 ++ numL c.n 4 := by unfold constL; rw [if_pos h]
theorem constL_9 {c : CnA} (h : c.kind = 9 ∨ c.kind = 10) : constL c = numL c.kind 1 ++ (textL c.cl ++ (textL c.nm ++ textL c.ds)) := by unfold constL; rw [if_neg (by omega), if_pos h]
theorem constL_7 {c : CnA} (h : c.kind = 7) : constL c = numL c.kind 1 ++ textL c.cl := by unfold constL; rw [if_neg (by omega), if_neg (by omega)]
theorem cstep_at {b rest : List Nat} {pos : Nat} {c : CnA} (hg : c.Good) (hr : rightP c) (h : b.drop pos = constL c ++ rest) : cstep b ⟨pos, 0, 0⟩ = (c, ⟨pos + (constL c).length, 0, 0⟩) ∧ b.drop (pos + (constL c).length) = rest := by
  obtain ⟨a1, a2, a3⟩ := right_asc hr
  have hl := right_len hr
  have hk : c.kind = 3 ∨ c.kind = 7 ∨ c.kind = 10 ∨ c.kind = 9 := by
    rcases hr with h | h | h | h
    · exact .inl h.1
    · exact .inr (.inl h.1)
    · exact .inr (.inr (.inl h.1))
    · exact .inr (.inr (.inr h.1))
  have hkk : ∀ {x : List Nat}, b.drop pos = numL c.kind 1 ++ x → RdS.take ⟨pos, 0, 0⟩ b 1 = (numL c.kind 1, ⟨pos + 1, 0, 0⟩) ∧ b.drop (pos + 1) = x ∧ ckind b ⟨pos, 0, 0⟩ = c.kind := by
    intro x hx
    obtain ⟨e1, d1⟩ := take_at hx (numL_len _ 1)
    refine ⟨e1, d1, ?_⟩
    unfold ckind
    rw [e1]
    exact numV_1 (by omega) (by omega)
  rcases hk with k | k | k
  · rw [constL_3 k, List.append_assoc] at h
    obtain ⟨e1, d1, ek⟩ := hkk h
    obtain ⟨e2, d2⟩ := take_at d1 (numL_len _ 4)
    rw [constL_3 k, List.length_append, numL_len, numL_len, show pos + (1 + 4) = pos + 1 + 4 by omega]
    refine ⟨?_, d2⟩
    unfold cstep
    rw [if_pos (by rw [ek, k]), e1]
    dsimp only
    rw [e2]
    dsimp only
    rw [numV_i hg.n1 hg.n2]
    obtain ⟨h1, h2, h3⟩ := (rightP_3 k).1 hr
    congr 1
    cases c; simp_all
  · rw [constL_7 k, List.append_assoc] at h
    obtain ⟨e1, d1, ek⟩ := hkk h
    obtain ⟨e2, d2⟩ := text_at a1 (by omega) d1
    rw [constL_7 k, List.length_append, numL_len, ← Nat.add_assoc]
    refine ⟨?_, d2⟩
    unfold cstep
    rw [if_neg (by omega), if_neg (by omega), if_pos (by omega), e1]
    dsimp only
    rw [e2]
    dsimp only
    obtain ⟨h1, h2, h3, h4⟩ := (rightP_7 k).1 hr
    congr 1
    cases c; simp_all
  · have k2 : c.kind = 9 ∨ c.kind = 10 := by omega
    rw [constL_9 k2, List.append_assoc, List.append_assoc, List.append_assoc] at h
    obtain ⟨e1, d1, ek⟩ := hkk h
    obtain ⟨e2, d2⟩ := text_at a1 (by omega) d1
    obtain ⟨e3, d3⟩ := text_at a2 (by omega) d2
    obtain ⟨e4, d4⟩ := text_at a3 (by omega) d3
    rw [constL_9 k2, List.length_append, List.length_append, List.length_append, numL_len, ← Nat.add_assoc, ← Nat.add_assoc, ← Nat.add_assoc]
    refine ⟨?_, d4⟩
    unfold cstep
    rw [if_neg (by omega), if_pos (by omega), ek, e1]
    dsimp only
    rw [e2]
    dsimp only
    rw [e3]
    dsimp only
    rw [e4]
    dsimp only
    have h0 : c.n = 0 := by
      rcases k with k | k
      · exact ((rightP_10 k).1 hr).2.2.1
      · exact ((rightP_9 k).1 hr).2.1
    congr 1
    cases c; simp_all
theorem cloop_at : ∀ {cs : List CnA} {b rest : List Nat} {pos : Nat} {l : List CnA}, (∀ c ∈ cs, c.Good ∧ rightP c) → b.drop pos = cs.flatMap constL ++ rest → cloop b cs.length ⟨pos, 0, 0⟩ l = (l ++ cs, ⟨pos + (cs.flatMap constL).length, 0, 0⟩) ∧ b.drop (pos + (cs.flatMap constL).length) = rest
  | [], b, rest, pos, l, _, h => ⟨by simp [cloop], by simpa using h⟩
  | c :: cs, b, rest, pos, l, hc, h => by
    obtain ⟨h1, h2⟩ := hc c (List.mem_cons_self ..)
    rw [List.flatMap_cons, List.append_assoc] at h
    obtain ⟨e1, d1⟩ := cstep_at h1 h2 h
    obtain ⟨e2, d2⟩ := cloop_at (l := l ++ [c]) (fun d hd => hc d (List.mem_cons_of_mem _ hd)) d1
    have en : cnext b ⟨pos, 0, 0⟩ = ⟨pos + (constL c).length, 0, 0⟩ := by unfold cnext; rw [e1, if_pos h2]
    rw [List.flatMap_cons, List.length_append, ← Nat.add_assoc]
    refine ⟨?_, d2⟩
    rw [List.length_cons]
    unfold cloop
    rw [en, if_neg (by simp), e1]
    dsimp only
    rw [e2]; simp
theorem readS_at {cs : List CnA} {b rest : List Nat} {pos : Nat} (hc : ∀ c ∈ cs, c.Good ∧ rightP c) (hl : cs.length ≤ 256) (h : b.drop pos = poolL cs ++ rest) : readS b ⟨pos, 0, 0⟩ = (cs, ⟨pos + (poolL cs).length, 0, 0⟩) := by
  unfold poolL at h ⊢
  rw [List.append_assoc] at h
  obtain ⟨e1, d1⟩ := take_at h (numL_len _ 2)
  have en := numOf_2 (n := cs.length) (by omega)
  have eh : chead b ⟨pos, 0, 0⟩ = ⟨pos + 2, 0, 0⟩ := by
    unfold chead
    rw [e1]
    dsimp only
    rw [en, if_neg (by omega)]
  unfold readS
  rw [eh, if_neg (by simp), e1]
  dsimp only
  rw [en, (cloop_at hc d1).1, List.length_append, numL_len, ← Nat.add_assoc]; simp
end Go.Proofs.YthhbnnnokmefoaaDoor
/- mutf.NewReader; carafebook.Same. -/

namespace Go.Proofs.YthhbnnnokmefoaaDoor
open GX
set_option maxHeartbeats 8000000
theorem newrd_runs {S : St} {v : AV} {b : List Nat} (hok : Sok S) (hv : Rd S v 1 (sbytes b) b.length) (hb : b.length ≤ 1000000000) (hn : S.n + 3 ≤ 1000000000) :
    Runs X1 28 [v] S fun x S' => ∃ p vb, x = .ptr p 0 ∧ S.n ≤ p ∧ p < S'.n ∧ Rr S' p vb b ⟨0, 0, 0⟩ ∧ (∀ c, blkOf vb = some c → S.n ≤ c) ∧ Fr S S' .nils 3 := by
  refine Runs_fn (m := 7) (by kernel_rfl) Tryd.func28 rfl (by kernel_rfl) (by kernel_rfl) ?_
  repeat (
    first
      | refine W_seq ?_
      | refine WO_nil ?_
      | refine V_seq ?_
      | refine W_region ?_
      | refine WO_dst rfl rfl (by kernel_rfl) (by kernel_rfl) ?_
      | refine Ev_move rfl ?_
      | refine Ev_assign rfl ?_)
  refine Ev_call rfl rfl ((clone_runs hok hv hb (by omega)).mono ?_)
  rintro w S1 - ⟨hF1, hz, hb1⟩
  have hn1 := hF1.n
  have hl1 := hF1.le
  have hwr := hz.rd
  repeat (
    refine WO_dst rfl rfl (by kernel_rfl) (by kernel_rfl) ?_)
  refine Ev_build (v := .agg [w, .int .i64 0, .int .i64 0, .int .i64 0]) rfl ?_ ?_
  · have hs := hwr.sl
    cases w <;> first | rfl | cases hs
  repeat (
    refine WO_dst rfl rfl (by kernel_rfl) (by kernel_rfl) ?_)
  refine Ev_box rfl hF1.ok (by omega) ?_
  intro S2 hn2 hok2 hq2 hf2
  repeat (
    first
      | refine WO_nil ?_
      | refine V_seq ?_
      | refine W_ret ?_
      | refine WO_dst rfl rfl (by kernel_rfl) (by kernel_rfl) ?_
      | refine Ev_assign rfl ?_)
  refine V_done rfl rfl ?_
  refine ⟨S1.n, w, rfl, by omega, by omega, ⟨hq2, hwr.keep (fun c hc => hf2 c (hwr.lt hF1.ok hc)), fun e => ?_, Nat.zero_le _⟩, hb1, ⟨by omega, by omega, hok2, fun c _ h => by rw [hf2 c (by omega), hF1.same c (by simp [blkOf]) h]⟩⟩
  have := hwr.lt hF1.ok e; omega
end Go.Proofs.YthhbnnnokmefoaaDoor
/- pool.Read: what it does. -/



namespace Go.Proofs.YthhbnnnokmefoaaDoor
open GX
set_option maxHeartbeats 16000000
theorem txt_len4 : ∀ cs : List Nat, (txt cs).length ≤ 4 * cs.length
  | [] => by simp [txt]
  | c :: cs => by
    have := runeL_len c
    have := txt_len4 cs
    show (runeL c ++ txt cs).length ≤ _
    simp only [List.length_append, List.length_cons]; omega
theorem enc1_pos (c : Nat) : 1 ≤ (enc1 c).length := by
  unfold enc1
  split
  · have := List.length_pos_iff.2 (unitL_ne (55296 + (c - 65536) / 1024)); rw [List.length_append]; omega
  · exact List.length_pos_iff.2 (unitL_ne c)
theorem encs_pos : ∀ cs : List Nat, cs.length ≤ (cs.flatMap enc1).length
  | [] => by simp
  | c :: cs => by
    have := enc1_pos c
    have := encs_pos cs
    simp only [List.flatMap_cons, List.length_append, List.length_cons]; omega
theorem text_take {r : RdS} {b : List Nat} : ∃ u : List Nat, (r.text b).1 = (decS u).getD [] ∧ u.length ≤ 256 ∧ ((∀ x ∈ b, x < 256) → ∀ x ∈ u, x < 256) := by
  unfold RdS.text
  dsimp only
  by_cases h : 256 < numOf (r.take b 2).1
  · rw [if_pos h, take_err (refuse_err (by decide))]
    exact ⟨[], rfl, by simp, fun _ x hx => by cases hx⟩
  · rw [if_neg h]
    refine ⟨_, rfl, ?_, fun hlt => take_lt hlt⟩
    have := take_len (r.take b 2).2 b (numOf (r.take b 2).1)
    omega
theorem text_good {r : RdS} {b : List Nat} (hlt : ∀ x ∈ b, x < 256) : (r.text b).1.length ≤ 1024 ∧ ∀ c ∈ (r.text b).1, c < 256 := by
  obtain ⟨u, hu, hul, hub⟩ := text_take (r := r) (b := b)
  rw [hu]
  cases hd : decS u with
  | none => simp
  | some w =>
    obtain ⟨cs, k1, k2, k3⟩ := dec_back _ (Nat.le_refl _) (hub hlt) hd
    have h1 := txt_len4 cs
    have h2 := encs_pos cs
    rw [← k3] at h2
    show w.length ≤ 1024 ∧ ∀ c ∈ w, c < 256
    rw [k2]
    exact ⟨by omega, txt_lt k1⟩
theorem refuse_11 {r : RdS} {c a : Int} (hc : c ≠ 11) (h : r.err ≠ 11) : (r.refuse c a).err ≠ 11 := by
  unfold RdS.refuse; split
  · exact hc
  · exact h
theorem take_11 {r : RdS} {b : List Nat} {n : Nat} (h : r.err ≠ 11) : (r.take b n).2.err ≠ 11 := by
  unfold RdS.take; split
  · exact h
  · split
    · exact refuse_11 (by decide) h
    · exact h
theorem ite_11 {p : Prop} [Decidable p] : (if p then (0 : Int) else 12) ≠ 11 := by split <;> decide
theorem text_11 {r : RdS} {b : List Nat} (h : r.err ≠ 11) : (r.text b).2.err ≠ 11 := by
  unfold RdS.text
  dsimp only
  refine refuse_11 ite_11 (take_11 ?_)
  split
  · exact refuse_11 (by decide) (take_11 h)
  · exact take_11 h
theorem cstep_11 {r : RdS} {b : List Nat} (h : r.err ≠ 11) : (cstep b r).2.err ≠ 11 := by
  unfold cstep
  split
  · exact take_11 (take_11 h)
  · split
    · exact text_11 (text_11 (text_11 (take_11 h)))
    · split
      · exact text_11 (take_11 h)
      · exact refuse_11 (by decide) (take_11 h)
theorem cnext_11 {r : RdS} {b : List Nat} (h : r.err ≠ 11) : (cnext b r).err ≠ 11 := by
  unfold cnext
  split
  · exact cstep_11 h
  · exact refuse_11 (by decide) (cstep_11 h)
theorem chead_11 {r : RdS} {b : List Nat} (h : r.err ≠ 11) : (chead b r).err ≠ 11 := by
  unfold chead
  split
  · exact refuse_11 (by decide) (take_11 h)
  · exact take_11 h
theorem refuse_bad {r : RdS} {c a : Int} (h : r.err ≠ 0) : r.refuse c a = r := by unfold RdS.refuse; rw [if_neg (fun g => h g.1)]
theorem cstep_bad {r : RdS} {b : List Nat} (h : r.err ≠ 0) : (cstep b r).2 = r := by
  have hk : ckind b r = 0 := by unfold ckind; rw [take_err h]; rfl
  unfold cstep
  rw [hk, if_neg (by decide), if_neg (by decide), if_neg (by decide), take_err h]
  exact refuse_bad h
theorem cnext_bad {r : RdS} {b : List Nat} (h : r.err ≠ 0) : cnext b r = r := by
  unfold cnext
  rw [cstep_bad h]
  split
  · rfl
  · exact refuse_bad h
theorem cloop_bad {r : RdS} {b : List Nat} (h : r.err ≠ 0) : ∀ n, cloop b n r [] = ([], r)
  | 0 => rfl
  | n + 1 => by unfold cloop; rw [cnext_bad h, if_pos h]
theorem readS_eq (b : List Nat) (r : RdS) : readS b r = cloop b (numOf (r.take b 2).1) (chead b r) [] := by
  unfold readS
  split
  · rename_i h; rw [cloop_bad h]
  · rfl
theorem ckind_in {b : List Nat} {r : RdS} (hlt : ∀ x ∈ b, x < 256) : 0 ≤ ckind b r ∧ ckind b r < 256 := by
  have h1 := numOf_lt _ _ rfl (take_lt (r := r) (n := 1) hlt)
  have h2 : 256 ^ (r.take b 1).1.length ≤ 256 ^ 1 := Nat.pow_le_pow_right (n := 256) (by omega) (take_len r b 1)
  unfold ckind
  rw [numV_small (by omega)]
  omega
theorem wrp_i32_in (z : Int) : -2147483648 ≤ wrp .i32 z ∧ wrp .i32 z < 2147483648 := by
  rw [wrp_eq]
  simp [IntKind.wrap, IntKind.signed, IntKind.bits]
  split <;> omega
theorem cstep_good {b : List Nat} {r : RdS} (hlt : ∀ x ∈ b, x < 256) : (cstep b r).1.Good ∧ (cstep b r).1.cl.length ≤ 1024 ∧ (cstep b r).1.nm.length ≤ 1024 ∧ (cstep b r).1.ds.length ≤ 1024 := by
  have hk := ckind_in (r := r) hlt
  have t := fun r' : RdS => text_good (r := r') hlt
  have z : ([] : List Nat).length < 9223372036854775808 ∧ ∀ c ∈ ([] : List Nat), c < 256 := ⟨by decide, fun c hc => by cases hc⟩
  have t2 : ∀ r' : RdS, (r'.text b).1.length < 9223372036854775808 ∧ ∀ c ∈ (r'.text b).1, c < 256 := fun r' => ⟨by have := (t r').1; omega, (t r').2⟩
  unfold cstep
  split
  · have hi := wrp_i32_in (numV ((r.take b 1).2.take b 4).1)
    exact ⟨⟨by dsimp only; omega, by dsimp only; omega, hi.1, hi.2, z, z, z⟩, by simp, by simp, by simp⟩
  · split
    · exact ⟨⟨by dsimp only; omega, by dsimp only; omega, by dsimp only; omega, by dsimp only; omega, t2 _, t2 _, t2 _⟩, (t _).1, (t _).1, (t _).1⟩
    · split
      · exact ⟨⟨by dsimp only; omega, by dsimp only; omega, by dsimp only; omega, by dsimp only; omega, t2 _, z, z⟩, (t _).1, by simp, by simp⟩
      · exact ⟨⟨by dsimp only; omega, by dsimp only; omega, by dsimp only; omega, by dsimp only; omega, z, z, z⟩, by simp, by simp, by simp⟩
theorem cstep_9 {b : List Nat} {r : RdS} (h : ckind b r = 9 ∨ ckind b r = 10) : cstep b r = (⟨ckind b r, 0, ((r.take b 1).2.text b).1, (((r.take b 1).2.text b).2.text b).1, ((((r.take b 1).2.text b).2.text b).2.text b).1⟩, ((((r.take b 1).2.text b).2.text b).2.text b).2) := by unfold cstep; rw [if_neg (by omega), if_pos h]
theorem cstep_7 {b : List Nat} {r : RdS} (h : ckind b r = 7) : cstep b r = (⟨7, 0, ((r.take b 1).2.text b).1, [], []⟩, ((r.take b 1).2.text b).2) := by unfold cstep; rw [if_neg (by omega), if_neg (by omega), if_pos h]
theorem cstep_o {b : List Nat} {r : RdS} (h3 : ckind b r ≠ 3) (h9 : ¬ (ckind b r = 9 ∨ ckind b r = 10)) (h7 : ckind b r ≠ 7) : cstep b r = (⟨ckind b r, 0, [], [], []⟩, (r.take b 1).2.refuse 12 ((r.take b 1).2.pos : Int)) := by unfold cstep; rw [if_neg h3, if_neg h9, if_neg h7]
/-- a reader, and the constants that were read -/
structure RL (S0 T : St) (p : Nat) (vb v : AV) (b : List Nat) (r : RdS) (cs : List CnA) (k : Nat) : Prop where
  fr : FrQ S0 T p k
  rr : Rr T p vb b r
  ow : Own T v 24 5 (cellsC cs) cs.length
  bk : ∀ c, blkOf v = some c → S0.n ≤ c
theorem RL.step {S0 T U : St} {p : Nat} {vb v : AV} {b : List Nat} {r r' : RdS} {cs : List CnA} {k k' : Nat} (h : RL S0 T p vb v b r cs k) (hp : p < S0.n) (a : FrQ T U p k') (h1 : Rr U p vb b r') : RL S0 U p vb v b r' cs (k + k') :=
  ⟨h.fr.trans a, h1, h.ow.keep (fun c hc => a.same c (fun e => by have := h.bk c hc; omega) (h.ow.lt h.fr.ok hc)), h.bk⟩
theorem RL.fr1 {S0 T U : St} {p : Nat} {vb v : AV} {b : List Nat} {r : RdS} {cs : List CnA} {k k' : Nat} (h : RL S0 T p vb v b r cs k) (hp : p < S0.n) (a : Fr T U .nils k') : RL S0 U p vb v b r cs (k + k') := h.step hp a.q (h.rr.fr h.fr.ok a)
theorem FrQ.k {S S' : St} {p k k' : Nat} (a : FrQ S S' p k) (h : k ≤ k') : FrQ S S' p k' := ⟨a.le, Nat.le_trans a.n (by omega), a.ok, a.same⟩
theorem RL.k {S0 T : St} {p : Nat} {vb v : AV} {b : List Nat} {r : RdS} {cs : List CnA} {k k' : Nat} (h : RL S0 T p vb v b r cs k) (hk : k ≤ k') : RL S0 T p vb v b r cs k' := ⟨h.fr.k hk, h.rr, h.ow, h.bk⟩
theorem RL.upd {S0 T U : St} {p q : Nat} {vb v : AV} {b : List Nat} {r : RdS} {cs : List CnA} {k : Nat} {x : AB} (h : RL S0 T p vb v b r cs k) (hp : p < S0.n) (hvb : ∀ c, blkOf vb = some c → c < S0.n) (hq0 : S0.n ≤ q) (hqT : q < T.n) (hv : blkOf v ≠ some q) (hn : U.n = T.n) (hx : U.h.get q = some x) (hf : ∀ c, c ≠ q → U.h.get c = T.h.get c) : RL S0 U p vb v b r cs k :=
  ⟨⟨by have := h.fr.le; omega, by have := h.fr.n; omega, sok_upd h.fr.ok hqT hn hx hf, fun c h1 h2 => by rw [hf c (by omega)]; exact h.fr.same c h1 h2⟩,
    ⟨by rw [hf p (by omega)]; exact h.rr.cell, h.rr.rd.keep (fun c hc => hf c (by have := hvb c hc; omega)), h.rr.ne, h.rr.le⟩,
    h.ow.keep (fun c hc => hf c (fun e => hv (by rw [hc, e]))), h.bk⟩
theorem RL.app {S0 T U : St} {p : Nat} {vb v v' : AV} {b : List Nat} {r : RdS} {cs : List CnA} {c : CnA} {k : Nat} (h : RL S0 T p vb v b r cs k) (hp : p < S0.n) (hvb : ∀ c, blkOf vb = some c → c < S0.n) (h1 : T.n ≤ U.n) (h2 : U.n ≤ T.n + 1) (h3 : Sok U) (h4 : Own U v' 24 5 (cellsC cs ++ c.cells) (cs.length + 1)) (h5 : ∀ d, blkOf v ≠ some d → d < T.n → U.h.get d = T.h.get d) (h6 : ∀ d, blkOf v' = some d → blkOf v = some d ∨ T.n ≤ d) : RL S0 U p vb v' b r (cs ++ [c]) (k + 1) := by
  have hle := h.fr.le
  have hbk := h.bk
  refine ⟨⟨by omega, by have := h.fr.n; omega, h3, fun d k1 k2 => ?_⟩, ⟨?_, h.rr.rd.keep (fun d hd => ?_), h.rr.ne, h.rr.le⟩, h4.eq (by rw [cellsC_app]; simp [cellsC]) (by simp), fun d hd => ?_⟩
  · rw [h5 d (fun e => by have := hbk d e; omega) (by omega)]; exact h.fr.same d k1 k2
  · rw [h5 p (fun e => by have := hbk p e; omega) (by omega)]; exact h.rr.cell
  · have := hvb d hd
    exact h5 d (fun e => by have := hbk d e; omega) (by omega)
  · rcases h6 d hd with g | g
    · exact hbk d g
    · omega
theorem pread_runs {S : St} {p : Nat} {vb : AV} {b : List Nat} {r0 : RdS} (hok : Sok S) (h : Rr S p vb b r0) (hb : b.length ≤ 10000000) (hlt : ∀ x ∈ b, x < 256) (he11 : r0.err ≠ 11) (hn : S.n ≤ 400000000) :
    Runs X1 29 [.ptr p 0] S fun v S' => RL S S' p vb v b (readS b r0).2 (readS b r0).1 6000000 := by
  have hp : p < S.n := hok _ _ h.cell
  have hvb : ∀ c, blkOf vb = some c → c < S.n := fun c hc => h.rd.lt hok hc
  refine Runs_fn (m := 71) (by kernel_rfl) Tryd.func29 rfl (by kernel_rfl) (by kernel_rfl) ?_
  repeat' (
    first
      | refine W_seq ?_
      | refine WO_nil ?_
      | refine V_seq ?_
      | refine W_region ?_
      | refine W_skip ?_
      | refine W_cond_f rfl ?_
      | refine WO_dst rfl rfl (by kernel_rfl) (by kernel_rfl) ?_
      | refine Ev_move rfl ?_
      | refine Ev_assign rfl ?_
      | refine Ev_ptr_eql rfl rfl rfl rfl ?_)
  refine Ev_call rfl rfl ((rnum_runs hok h (by omega) (by omega) hlt).mono ?_)
  rintro _ S1 - ⟨rfl, h1, hF1⟩
  rw [size2] at h1 ⊢
  have hx2 := take_len r0 b 2
  have hxb := take_lt (r := r0) (n := 2) hlt
  have hnl := numOf_lt _ _ rfl hxb
  have hpw : 256 ^ (r0.take b 2).1.length ≤ 65536 := Nat.pow_le_pow_right (n := 256) (by omega) hx2
  rw [numV_small (by omega)]
  obtain ⟨n, hm⟩ : ∃ n, n = numOf (r0.take b 2).1 := ⟨_, rfl⟩
  rw [readS_eq, ← hm]
  rw [← hm] at hnl
  have gn1 := hF1.n
  repeat' (
    first
      | refine W_seq ?_
      | refine WO_nil ?_
      | refine V_seq ?_
      | refine W_region ?_
      | refine WO_dst rfl rfl (by kernel_rfl) (by kernel_rfl) ?_
      | refine Ev_move rfl ?_
      | refine Ev_assign rfl ?_
      | refine Ev_gtrN rfl rfl ?_)
  refine W_cut (fun l' T => Rr T p vb b (chead b r0) ∧ FrP S T p ∧ sub [(3, .int .i64 ((n : Nat) : Int)), (0, .ptr p 0)] l') ?_ ?_
  · repeat' (
      first
        | refine W_region ?_
        | refine W_skip ?_
        | refine WO_dst rfl rfl (by kernel_rfl) (by kernel_rfl) ?_
        | refine Ev_move rfl ?_
        | (refine W_cond rfl (fun hc => ?_) (fun hc => ?_) <;> (try dsimp only at hc) <;> try (exfalso; first | omega | exact hc rfl)))
    · refine Ev_call rfl rfl ((fail_runs hF1.ok h1 (by omega)).mono ?_)
      rintro _ S2 - ⟨h2, hF2⟩
      repeat' (
        refine WO_nil ?_)
      refine V_mid ⟨?_, hF1.trans hF2, rfl, rfl, trivial⟩
      unfold chead; rw [← hm, if_pos (by omega)]; exact h2
    · refine V_mid ⟨?_, hF1, rfl, rfl, trivial⟩
      unfold chead; rw [← hm, if_neg (by omega)]; exact h1
  rintro l' S2 ⟨h2, hF2, hs⟩
  refine V_weak hs ?_
  repeat' (
    first
      | refine W_seq ?_
      | refine WO_nil ?_
      | refine V_seq ?_
      | refine W_region ?_
      | refine W_block ?_
      | refine WO_dst rfl rfl (by kernel_rfl) (by kernel_rfl) ?_
      | refine Ev_move rfl ?_
      | refine Ev_assign rfl ?_)
  refine W_inv (fun a : Nat × AV => [(17, .int .i64 ((a.1 : Nat) : Int)), (16, .int .i64 ((n : Nat) : Int)), (4, a.2), (0, .ptr p 0)]) (fun a T => ∃ r cs, RL S T p vb a.2 b r cs (20000 * a.1 + 10) ∧ a.1 ≤ 256 ∧ a.1 ≤ n ∧ cs.length ≤ a.1 ∧ cloop b n (chead b r0) [] = cloop b (n - a.1) r cs ∧ r.err ≠ 11 ∧ (a.1 = 0 → r = chead b r0) ∧ (0 < a.1 → n ≤ 256)) (fun a => n - a.1) ?_ (0, .nils) ?_ ⟨rfl, rfl, rfl, rfl, trivial⟩
  · rintro ⟨i, v⟩ T ⟨r, cs, hL, hi, hin, hcs, hcl, h11, hz, hpos⟩ back
    dsimp only at hL hi hin hcs hcl hz hpos back
    have gn := hL.fr.n
    have gl := hL.fr.le
    have hvT : ∀ d, blkOf v = some d → d < T.n := fun d hd => hL.ow.lt hL.fr.ok hd
    repeat' (
      first
        | refine W_seq ?_
        | refine WO_nil ?_
        | refine V_seq ?_
        | refine W_region ?_
        | refine W_block ?_
        | refine W_skip ?_
        | refine W_ret ?_
        | refine W_exit ?_
        | refine V_block_x rfl ?_
        | refine V_seq_x ?_
        | refine V_loop_x ?_
        | refine WO_dst rfl rfl (by kernel_rfl) (by kernel_rfl) ?_
        | refine Ev_move rfl ?_
        | refine Ev_assign rfl ?_
        | refine Ev_lssN rfl rfl ?_
        | (refine W_cond rfl (fun hc => ?_) (fun hc => ?_) <;> (try dsimp only at hc) <;> try (exfalso; first | omega | exact hc rfl)))
    · have hlt2 : i < n := by assumption
      refine Ev_call rfl rfl ((rnum_runs hL.fr.ok hL.rr (by omega) (by omega) hlt).mono ?_)
      rintro _ T1 - ⟨rfl, h1, hF1⟩
      rw [size1] at h1 ⊢
      obtain ⟨k, hk⟩ : ∃ k, k = ckind b r := ⟨_, rfl⟩
      rw [show numV (r.take b 1).1 = ckind b r from rfl, ← hk]
      have hkin := ckind_in (r := r) hlt
      rw [← hk] at hkin
      have gn1 := hF1.n
      repeat (
        refine WO_dst rfl rfl (by kernel_rfl) (by kernel_rfl) ?_)
      refine Ev_build (v := .agg [.int .i64 k, .int .i32 0, .str [], .str [], .str []]) rfl rfl ?_
      repeat (
        refine WO_dst rfl rfl (by kernel_rfl) (by kernel_rfl) ?_)
      refine Ev_alloc_ rfl hF1.ok (by omega) ?_
      intro T2 gn2 gok2 gq2 gf2
      repeat (
        refine WO_no rfl rfl ?_)
      refine Ev_store rfl rfl rfl rfl rfl gq2 (by simp [AV.cells]) (by omega) ?_
      intro T3 gn3 gq3 gf3
      have hF3 : Fr T1 T3 .nils 1 := ⟨by omega, by omega, sok_upd gok2 (by omega) gn3 gq3 gf3, fun c _ h => by rw [gf3 c (by omega), gf2 c h]⟩
      have hL3 := (hL.step hp hF1.q h1).fr1 hp hF3
      have hq3 : T3.h.get T1.n = some (.cells 24 (CnA.mk k 0 [] [] []).cells false) := gq3
      have hvq : blkOf v ≠ some T1.n := fun e => by have := hvT _ e; omega
      repeat (
        first
          | refine W_seq ?_
          | refine WO_nil ?_
          | refine V_seq ?_
          | refine W_region ?_
          | refine W_block ?_
          | refine WO_dst rfl rfl (by kernel_rfl) (by kernel_rfl) ?_
          | refine Ev_load rfl rfl rfl hq3 rfl (veq_int _ _) ?_
          | refine Ev_assign rfl ?_
          | refine Ev_eql rfl rfl ?_
          | refine Ev_fieldAddr rfl rfl rfl rfl rfl rfl ?_)
      have hT1 : S.n ≤ T1.n := by omega
      have gl3 : T1.n < T3.n := by omega
      refine W_cut (fun l' U => U.h.get T1.n = some (.cells 24 (cstep b r).1.cells false) ∧ RL S U p vb v b (cstep b r).2 cs (20000 * i + 10000) ∧ T1.n < U.n ∧ sub [(5, .ptr T1.n 0), (17, .int .i64 ((i : Nat) : Int)), (16, .int .i64 ((n : Nat) : Int)), (4, v), (0, .ptr p 0)] l') ?_ ?_
      · repeat' (
          first
            | refine W_seq ?_
            | refine WO_nil ?_
            | refine V_seq ?_
            | refine W_region ?_
            | refine W_skip ?_
            | refine WO_dst rfl rfl (by kernel_rfl) (by kernel_rfl) ?_
            | refine Ev_move rfl ?_
            | refine Ev_assign rfl ?_
            | refine Ev_eql rfl rfl ?_
            | (refine W_cond rfl (fun hc => ?_) (fun hc => ?_) <;> (try dsimp only at hc) <;> try (exfalso; first | omega | exact hc rfl)))
        · refine Ev_call rfl rfl ((rnum_runs hL3.fr.ok hL3.rr (by omega) (by omega) hlt).mono ?_)
          rintro _ T4 - ⟨rfl, h4, hF4⟩
          rw [size4] at h4 ⊢
          have gn4 := hF4.n
          have hq4 : T4.h.get T1.n = some (.cells 24 (CnA.mk k 0 [] [] []).cells false) := by rw [hF4.same T1.n (by omega)]; exact hq3
          have hL4 := hL3.step hp hF4.q h4
          repeat (
            refine WO_dst rfl rfl (by kernel_rfl) (by kernel_rfl) ?_)
          refine Ev_convw rfl rfl rfl rfl rfl ?_
          repeat (
            first
              | refine WO_dst rfl rfl (by kernel_rfl) (by kernel_rfl) ?_
              | refine WO_no rfl rfl ?_
              | refine Ev_fieldAddr rfl rfl rfl rfl rfl rfl ?_)
          refine Ev_store1 rfl rfl rfl rfl rfl rfl hq4 (by simp [CnA.cells]) (by omega) ?_
          intro T5 gn5 gq5 gf5
          have hL5 := hL4.upd hp hvb hT1 (by omega) hvq gn5 gq5 gf5
          have e : cstep b r = (⟨3, wrp .i32 (numV ((r.take b 1).2.take b 4).1), [], [], []⟩, ((r.take b 1).2.take b 4).2) := by unfold cstep; rw [if_pos (by omega)]
          repeat' (
            refine WO_nil ?_)
          refine V_mid ⟨?_, ?_, by omega, rfl, rfl, rfl, rfl, rfl, trivial⟩
          · rw [e, gq5]
            have hk3 : k = 3 := by omega
            rw [hk3]; rfl
          · rw [e]; exact hL5.k (by omega)
        · have hk2 : k = 9 ∨ k = 10 := by omega
          refine Ev_call rfl rfl ((rdtext_runs hL3.fr.ok hL3.rr (by omega) (by omega) hlt).mono ?_)
          rintro _ T4 - ⟨rfl, h4, hF4⟩
          have gn4 := hF4.n
          have gl4 := hF4.le
          have hL4 := hL3.step hp hF4 h4
          repeat (
            first
              | refine WO_dst rfl rfl (by kernel_rfl) (by kernel_rfl) ?_
              | refine Ev_move rfl ?_)
          refine Ev_call rfl rfl ((rdtext_runs hL4.fr.ok hL4.rr (by omega) (by omega) hlt).mono ?_)
          rintro _ T5 - ⟨rfl, h5, hF5⟩
          have gn5 := hF5.n
          have gl5 := hF5.le
          have hL5 := hL4.step hp hF5 h5
          have hq5 : T5.h.get T1.n = some (.cells 24 (CnA.mk k 0 [] [] []).cells false) := by rw [hF5.same T1.n (by omega) (by omega), hF4.same T1.n (by omega) (by omega)]; exact hq3
          repeat (
            first
              | refine WO_dst rfl rfl (by kernel_rfl) (by kernel_rfl) ?_
              | refine WO_no rfl rfl ?_
              | refine Ev_fieldAddr rfl rfl rfl rfl rfl rfl ?_)
          refine Ev_store1 rfl rfl rfl rfl rfl rfl hq5 (by simp [CnA.cells]) (by omega) ?_
          intro T6 gn6 gq6 gf6
          have hL6 := hL5.upd hp hvb hT1 (by omega) hvq gn6 gq6 gf6
          have hq6 : T6.h.get T1.n = some (.cells 24 (CnA.mk k 0 ((r.take b 1).2.text b).1 [] []).cells false) := gq6
          repeat (
            first
              | refine WO_dst rfl rfl (by kernel_rfl) (by kernel_rfl) ?_
              | refine WO_no rfl rfl ?_
              | refine Ev_fieldAddr rfl rfl rfl rfl rfl rfl ?_)
          refine Ev_store1 rfl rfl rfl rfl rfl rfl hq6 (by simp [CnA.cells]) (by omega) ?_
          intro T7 gn7 gq7 gf7
          have hL7 := hL6.upd hp hvb hT1 (by omega) hvq gn7 gq7 gf7
          have hq7 : T7.h.get T1.n = some (.cells 24 (CnA.mk k 0 ((r.take b 1).2.text b).1 (((r.take b 1).2.text b).2.text b).1 []).cells false) := gq7
          repeat (
            first
              | refine WO_nil ?_
              | refine V_seq ?_
              | refine W_region ?_
              | refine WO_dst rfl rfl (by kernel_rfl) (by kernel_rfl) ?_
              | refine Ev_move rfl ?_)
          refine Ev_call rfl rfl ((rdtext_runs hL7.fr.ok hL7.rr (by omega) (by omega) hlt).mono ?_)
          rintro _ T8 - ⟨rfl, h8, hF8⟩
          have gn8 := hF8.n
          have gl8 := hF8.le
          have hL8 := hL7.step hp hF8 h8
          have hq8 : T8.h.get T1.n = some (.cells 24 (CnA.mk k 0 ((r.take b 1).2.text b).1 (((r.take b 1).2.text b).2.text b).1 []).cells false) := by rw [hF8.same T1.n (by omega) (by omega)]; exact hq7
          repeat (
            first
              | refine WO_dst rfl rfl (by kernel_rfl) (by kernel_rfl) ?_
              | refine WO_no rfl rfl ?_
              | refine Ev_fieldAddr rfl rfl rfl rfl rfl rfl ?_)
          refine Ev_store1 rfl rfl rfl rfl rfl rfl hq8 (by simp [CnA.cells]) (by omega) ?_
          intro T9 gn9 gq9 gf9
          have hL9 := hL8.upd hp hvb hT1 (by omega) hvq gn9 gq9 gf9
          have e := cstep_9 (b := b) (r := r) (by omega)
          repeat' (
            refine WO_nil ?_)
          refine V_mid ⟨?_, ?_, by omega, rfl, rfl, rfl, rfl, rfl, trivial⟩
          · rw [e, gq9, ← hk]; rfl
          · rw [e]; exact hL9.k (by omega)
        · have hk2 : k = 9 ∨ k = 10 := by omega
          refine Ev_call rfl rfl ((rdtext_runs hL3.fr.ok hL3.rr (by omega) (by omega) hlt).mono ?_)
          rintro _ T4 - ⟨rfl, h4, hF4⟩
          have gn4 := hF4.n
          have gl4 := hF4.le
          have hL4 := hL3.step hp hF4 h4
          repeat (
            first
              | refine WO_dst rfl rfl (by kernel_rfl) (by kernel_rfl) ?_
              | refine Ev_move rfl ?_)
          refine Ev_call rfl rfl ((rdtext_runs hL4.fr.ok hL4.rr (by omega) (by omega) hlt).mono ?_)
          rintro _ T5 - ⟨rfl, h5, hF5⟩
          have gn5 := hF5.n
          have gl5 := hF5.le
          have hL5 := hL4.step hp hF5 h5
          have hq5 : T5.h.get T1.n = some (.cells 24 (CnA.mk k 0 [] [] []).cells false) := by rw [hF5.same T1.n (by omega) (by omega), hF4.same T1.n (by omega) (by omega)]; exact hq3
          repeat (
            first
              | refine WO_dst rfl rfl (by kernel_rfl) (by kernel_rfl) ?_
              | refine WO_no rfl rfl ?_
              | refine Ev_fieldAddr rfl rfl rfl rfl rfl rfl ?_)
          refine Ev_store1 rfl rfl rfl rfl rfl rfl hq5 (by simp [CnA.cells]) (by omega) ?_
          intro T6 gn6 gq6 gf6
          have hL6 := hL5.upd hp hvb hT1 (by omega) hvq gn6 gq6 gf6
          have hq6 : T6.h.get T1.n = some (.cells 24 (CnA.mk k 0 ((r.take b 1).2.text b).1 [] []).cells false) := gq6
          repeat (
            first
              | refine WO_dst rfl rfl (by kernel_rfl) (by kernel_rfl) ?_
              | refine WO_no rfl rfl ?_
              | refine Ev_fieldAddr rfl rfl rfl rfl rfl rfl ?_)
          refine Ev_store1 rfl rfl rfl rfl rfl rfl hq6 (by simp [CnA.cells]) (by omega) ?_
          intro T7 gn7 gq7 gf7
          have hL7 := hL6.upd hp hvb hT1 (by omega) hvq gn7 gq7 gf7
          have hq7 : T7.h.get T1.n = some (.cells 24 (CnA.mk k 0 ((r.take b 1).2.text b).1 (((r.take b 1).2.text b).2.text b).1 []).cells false) := gq7
          repeat (
            first
              | refine WO_nil ?_
              | refine V_seq ?_
              | refine W_region ?_
              | refine WO_dst rfl rfl (by kernel_rfl) (by kernel_rfl) ?_
              | refine Ev_move rfl ?_)
          refine Ev_call rfl rfl ((rdtext_runs hL7.fr.ok hL7.rr (by omega) (by omega) hlt).mono ?_)
          rintro _ T8 - ⟨rfl, h8, hF8⟩
          have gn8 := hF8.n
          have gl8 := hF8.le
          have hL8 := hL7.step hp hF8 h8
          have hq8 : T8.h.get T1.n = some (.cells 24 (CnA.mk k 0 ((r.take b 1).2.text b).1 (((r.take b 1).2.text b).2.text b).1 []).cells false) := by rw [hF8.same T1.n (by omega) (by omega)]; exact hq7
          repeat (
            first
              | refine WO_dst rfl rfl (by kernel_rfl) (by kernel_rfl) ?_
              | refine WO_no rfl rfl ?_
              | refine Ev_fieldAddr rfl rfl rfl rfl rfl rfl ?_)
          refine Ev_store1 rfl rfl rfl rfl rfl rfl hq8 (by simp [CnA.cells]) (by omega) ?_
          intro T9 gn9 gq9 gf9
          have hL9 := hL8.upd hp hvb hT1 (by omega) hvq gn9 gq9 gf9
          have e := cstep_9 (b := b) (r := r) (by omega)
          repeat' (
            refine WO_nil ?_)
          refine V_mid ⟨?_, ?_, by omega, rfl, rfl, rfl, rfl, rfl, trivial⟩
          · rw [e, gq9, ← hk]; rfl
          · rw [e]; exact hL9.k (by omega)
        · refine Ev_call rfl rfl ((rdtext_runs hL3.fr.ok hL3.rr (by omega) (by omega) hlt).mono ?_)
          rintro _ T4 - ⟨rfl, h4, hF4⟩
          have gn4 := hF4.n
          have gl4 := hF4.le
          have hL4 := hL3.step hp hF4 h4
          have hq4 : T4.h.get T1.n = some (.cells 24 (CnA.mk k 0 [] [] []).cells false) := by rw [hF4.same T1.n (by omega) (by omega)]; exact hq3
          repeat (
            first
              | refine WO_dst rfl rfl (by kernel_rfl) (by kernel_rfl) ?_
              | refine WO_no rfl rfl ?_
              | refine Ev_fieldAddr rfl rfl rfl rfl rfl rfl ?_)
          refine Ev_store1 rfl rfl rfl rfl rfl rfl hq4 (by simp [CnA.cells]) (by omega) ?_
          intro T5 gn5 gq5 gf5
          have hL5 := hL4.upd hp hvb hT1 (by omega) hvq gn5 gq5 gf5
          have e := cstep_7 (b := b) (r := r) (by omega)
          have hk7 : k = 7 := by omega
          repeat' (
            refine WO_nil ?_)
          refine V_mid ⟨?_, ?_, by omega, rfl, rfl, rfl, rfl, rfl, trivial⟩
          · rw [e, gq5, hk7]; rfl
          · rw [e]; exact hL5.k (by omega)
        · refine Ev_call rfl rfl ((fail_runs hL3.fr.ok hL3.rr (by omega)).mono ?_)
          rintro _ T4 - ⟨h4, hF4⟩
          have gn4 := hF4.n
          have hL4 := hL3.step hp hF4.q h4
          have hq4 : T4.h.get T1.n = some (.cells 24 (CnA.mk k 0 [] [] []).cells false) := by rw [hF4.same T1.n (by omega)]; exact hq3
          have e := cstep_o (b := b) (r := r) (by omega) (by omega) (by omega)
          repeat' (
            refine WO_nil ?_)
          refine V_mid ⟨?_, ?_, by omega, rfl, rfl, rfl, rfl, rfl, trivial⟩
          · rw [e, hq4, ← hk]
          · rw [e]; exact hL4.k (by omega)
      rintro l' T6 ⟨hq6, hL6, gT6, hs6⟩
      refine V_weak hs6 ?_
      obtain ⟨hcg, hcb⟩ := cstep_good (r := r) hlt
      obtain ⟨c, hcc⟩ : ∃ c, c = (cstep b r).1 := ⟨_, rfl⟩
      obtain ⟨r6, hr6⟩ : ∃ r6, r6 = (cstep b r).2 := ⟨_, rfl⟩
      have hcn : cnext b r = if rightP c then r6 else r6.refuse 14 (r6.pos : Int) := by unfold cnext; rw [← hcc, ← hr6]
      rw [← hcc] at hq6 hcg
      rw [← hr6] at hL6
      have gn6 := hL6.fr.n
      have gl6 := hL6.fr.le
      repeat (
        first
          | refine W_seq ?_
          | refine V_seq ?_
          | refine W_region ?_
          | refine V_block ?_
          | refine WO_dst rfl rfl (by kernel_rfl) (by kernel_rfl) ?_)
      refine Ev_load_agg rfl rfl rfl hq6 (by simp [CnA.cells]) (show (c.cells.drop 0).take 5 = c.cells from rfl) (CnA.veqs c) ?_
      repeat (
        refine WO_dst rfl rfl (by kernel_rfl) (by kernel_rfl) ?_)
      refine Ev_call rfl rfl ((right_runs hL6.fr.ok hcg (by omega)).mono ?_)
      rintro _ T7 - ⟨rfl, hF7⟩
      have gn7 := hF7.n
      have gl7 := hF7.le
      have hL7 := hL6.fr1 hp hF7
      have hq7 : T7.h.get T1.n = some (.cells 24 c.cells false) := by rw [hF7.same T1.n (by simp [blkOf]) gT6]; exact hq6
      repeat' (
        first
          | refine WO_nil ?_
          | refine V_seq ?_
          | refine WO_dst rfl rfl (by kernel_rfl) (by kernel_rfl) ?_
          | refine Ev_not rfl ?_)
      refine W_cut (fun l' U => U.h.get T1.n = some (.cells 24 c.cells false) ∧ RL S U p vb v b (cnext b r) cs (20000 * i + 10030) ∧ T1.n < U.n ∧ sub [(5, .ptr T1.n 0), (17, .int .i64 ((i : Nat) : Int)), (16, .int .i64 ((n : Nat) : Int)), (4, v), (0, .ptr p 0)] l') ?_ ?_
      · repeat' (
          first
            | refine W_region ?_
            | refine W_skip ?_
            | refine WO_dst rfl rfl (by kernel_rfl) (by kernel_rfl) ?_
            | refine Ev_move rfl ?_
            | (refine W_cond rfl (fun hc => ?_) (fun hc => ?_) <;> (try dsimp only at hc) <;> try (exfalso; first | omega | exact hc rfl)))
        · refine Ev_call rfl rfl ((fail_runs hL7.fr.ok hL7.rr (by omega)).mono ?_)
          rintro _ T8 - ⟨h8, hF8⟩
          have gn8 := hF8.n
          have hL8 := hL7.step hp hF8.q h8
          repeat' (
            refine WO_nil ?_)
          refine V_mid ⟨by rw [hF8.same T1.n (by omega)]; exact hq7, ?_, by omega, rfl, rfl, rfl, rfl, rfl, trivial⟩
          rw [hcn, if_neg (by assumption)]; exact hL8.k (by omega)
        · refine V_mid ⟨hq7, ?_, by omega, rfl, rfl, rfl, rfl, rfl, trivial⟩
          rw [hcn, if_pos (by first | assumption | exact Classical.not_not.1 (by assumption))]; exact hL7.k (by omega)
      rintro l' T8 ⟨hq8, hL8, gT8, hs8⟩
      refine V_weak hs8 ?_
      have h11b := cnext_11 (b := b) h11
      have hnl2 : n - i = (n - (i + 1)) + 1 := by omega
      obtain ⟨rn, hrn⟩ : ∃ rn, rn = cnext b r := ⟨_, rfl⟩
      have hcl2 : cloop b n (chead b r0) [] = if rn.err ≠ 0 then ([], rn) else cloop b (n - (i + 1)) rn (cs ++ [c]) := by
        rw [hcl, hnl2, hrn, hcc]; rfl
      have hi0 : i = 0 → rn.err = 0 → n ≤ 256 := by
        intro h0 he
        rw [hrn, hz h0] at he
        by_cases hb256 : n ≤ 256
        · exact hb256
        · exfalso
          have hbad : (chead b r0).err ≠ 0 := by unfold chead; rw [← hm, if_pos (by omega)]; exact refuse_err (by decide)
          rw [cnext_bad hbad] at he
          exact hbad he
      rw [← hrn] at hL8 h11b
      have gn8 := hL8.fr.n
      have gl8 := hL8.fr.le
      repeat (
        first
          | refine W_seq ?_
          | refine V_seq ?_
          | refine W_region ?_
          | refine WO_dst rfl rfl (by kernel_rfl) (by kernel_rfl) ?_
          | refine Ev_move rfl ?_)
      refine Ev_call rfl rfl ((end_runs hL8.rr).mono ?_)
      rintro _ T9 - ⟨hT9, rfl⟩
      rw [hT9]
      obtain ⟨w, hw, hw0, hw1⟩ : ∃ w, (RdS.endOf rn b).1 = w ∧ (rn.err = 0 → w = 0 ∨ w = 11) ∧ (rn.err ≠ 0 → w ≠ 0 ∧ w ≠ 11) := by
        refine ⟨_, rfl, fun he => ?_, fun he => ?_⟩
        · unfold RdS.endOf
          rw [if_neg (by omega)]
          split
          · exact .inr rfl
          · exact .inl rfl
        · unfold RdS.endOf
          rw [if_pos he]; exact ⟨he, h11b⟩
      rw [hw]
      repeat' (
        first
          | refine W_seq ?_
          | refine WO_nil ?_
          | refine V_seq ?_
          | refine W_region ?_
          | refine W_skip ?_
          | refine W_ret ?_
          | refine V_ret ?_
          | refine W_cond_f rfl ?_
          | refine WO_dst rfl rfl (by kernel_rfl) (by kernel_rfl) ?_
          | refine WO_guard_t rfl rfl rfl rfl rfl (by kernel_rfl) (by kernel_rfl) ?_
          | refine WO_guard_f rfl rfl rfl rfl rfl rfl (by kernel_rfl) (by kernel_rfl) ?_
          | refine Ev_move rfl ?_
          | refine Ev_assign rfl ?_
          | refine Ev_extract rfl rfl ?_
          | refine Ev_pick_t rfl rfl rfl ?_
          | refine Ev_pick_f rfl rfl rfl ?_
          | refine Ev_neq rfl rfl ?_
          | (refine WO_guard_dt rfl rfl rfl rfl rfl (by kernel_rfl) (by kernel_rfl) (fun hg => ?_) (fun hg => ?_) <;> (try dsimp only at hg) <;> try (exfalso; first | omega | exact hg rfl))
          | (refine W_cond rfl (fun hc => ?_) (fun hc => ?_) <;> (try dsimp only at hc) <;> try (exfalso; first | omega | exact hc rfl)))
      · have he : rn.err ≠ 0 := by omega
        refine V_done rfl rfl ?_
        rw [hcl2, if_pos he]
        exact ⟨hL8.fr.k (by omega), hL8.rr, .inl ⟨rfl, rfl, rfl⟩, fun c hc => by cases hc⟩
      all_goals
        have he : rn.err = 0 := by omega
        rw [if_neg (by omega)] at hcl2
        refine Ev_load_agg rfl rfl rfl hq8 (by simp [CnA.cells]) (show (c.cells.drop 0).take 5 = c.cells from rfl) (CnA.veqs c) ?_
        repeat (
          refine WO_dst rfl rfl (by kernel_rfl) (by kernel_rfl) ?_)
        refine Ev_buildSlice rfl rfl rfl rfl rfl rfl hL8.fr.ok (by omega) ?_
        intro T10 gn10 gok10 gq10 gf10
        have hF10 : Fr T8 T10 .nils 1 := ⟨by omega, by omega, gok10, fun c _ h => gf10 c h⟩
        have hL10 := hL8.fr1 hp hF10
        have hrd : Rd T10 (.slice T8.n 0 1 (.ex 1)) 5 c.cells 1 := Rd_lit gq10 rfl rfl
        repeat (
          refine WO_dst rfl rfl (by kernel_rfl) (by kernel_rfl) ?_)
        refine Ev_append rfl rfl rfl rfl rfl rfl rfl rfl rfl rfl hL10.ow hrd (CnA.ones c) gok10 (by omega) (by dsimp only; omega) (by omega) ?_
        intro v' T11 k1 k2 k3 k4 k5 k6
        have hL11 := hL10.app hp hvb k1 k2 k3 k4 k5 k6
        repeat' (
          first
            | refine WO_nil ?_
            | refine V_seq ?_
            | refine W_region ?_
            | refine V_block ?_
            | refine WO_dst rfl rfl (by kernel_rfl) (by kernel_rfl) ?_
            | refine Ev_move rfl ?_
            | refine Ev_assign rfl ?_
            | refine Ev_addN rfl rfl (by simp only [lim]; omega) ?_)
        refine back (i + 1, v') T11 _ (by dsimp only; omega) ⟨rn, cs ++ [c], ?_, ?_, by dsimp only; omega, by simp; omega, hcl2, h11b, fun h => by dsimp only at h; omega, fun _ => ?_⟩ ⟨rfl, rfl, rfl, rfl, trivial⟩
        · exact hL11.k (by dsimp only; omega)
        · dsimp only
          rcases Nat.eq_zero_or_pos i with h0 | h0
          · omega
          · have := hpos h0; omega
        · rcases Nat.eq_zero_or_pos i with h0 | h0
          · exact hi0 h0 he
          · exact hpos h0
    · have hin2 : i = n := by omega
      subst hin2
      refine V_done rfl rfl ?_
      rw [hcl, Nat.sub_self]
      exact hL.k (by omega)
  · exact ⟨chead b r0, [], ⟨⟨by have := hF2.n; omega, by have := hF2.n; dsimp only; omega, hF2.ok, fun c h _ => hF2.same c h⟩, h2, .inl ⟨rfl, rfl, rfl⟩, fun c hc => by cases hc⟩, Nat.zero_le _, Nat.zero_le _, by simp, rfl, chead_11 he11, fun _ => rfl, fun h => absurd h (Nat.lt_irrefl _)⟩
end Go.Proofs.YthhbnnnokmefoaaDoor
/- carafelaw3.PoolAgain. -/



namespace Go.Proofs.YthhbnnnokmefoaaDoor
open GX
set_option maxHeartbeats 16000000
theorem textB_lt (s : List Nat) : ∀ b ∈ textB s, b < 256 := by
  unfold textB
  split
  · exact encS_lt
  · simp
theorem textL_lt (s : List Nat) : ∀ b ∈ textL s, b < 256 := by
  intro b hb
  unfold textL at hb
  rcases List.mem_append.1 hb with h | h
  · exact numL_lt _ _ b h
  · exact textB_lt s b h
theorem constL_lt (c : CnA) : ∀ b ∈ constL c, b < 256 := by
  intro b hb
  unfold constL at hb
  rcases List.mem_append.1 hb with h | h
  · exact numL_lt _ _ b h
  · split at h
    · exact numL_lt _ _ b h
    · split at h
      · simp only [List.mem_append] at h
        rcases h with h | h | h <;> exact textL_lt _ b h
      · exact textL_lt _ b h
theorem poolL_lt (cs : List CnA) : ∀ b ∈ poolL cs, b < 256 := by
  intro b hb
  unfold poolL at hb
  rcases List.mem_append.1 hb with h | h
  · exact numL_lt _ _ b h
  · obtain ⟨c, _, hc⟩ := List.mem_flatMap.1 h
    exact constL_lt c b hc
theorem poolL_len (cs : List CnA) : (poolL cs).length ≤ 2 + 800 * cs.length := by
  have := consts_len cs
  unfold poolL
  rw [List.length_append, numL_len]; omega
/-- the right ones among the first of some constants -/
def fineL (l : List CnA) (i : Nat) : List CnA := (l.take i).filter (fun c => decide (rightP c))
theorem fineL_s {l : List CnA} {i : Nat} (h : i < l.length) : fineL l (i + 1) = if rightP l[i] then fineL l i ++ [l[i]] else fineL l i := by
  unfold fineL
  rw [List.take_succ_eq_append_getElem h, List.filter_append]
  by_cases hr : rightP l[i]
  · rw [if_pos hr]; simp [hr]
  · rw [if_neg hr]; simp [hr]
theorem fineL_len (l : List CnA) (i : Nat) : (fineL l i).length ≤ i := by
  have h1 := List.length_filter_le (fun c => decide (rightP c)) (l.take i)
  have h2 : (l.take i).length ≤ i := by rw [List.length_take]; omega
  unfold fineL; omega
theorem fineL_ok {l : List CnA} (hg : ∀ c ∈ l, c.Good) (i : Nat) : ∀ c ∈ fineL l i, c.Good ∧ rightP c := by
  intro c hc
  unfold fineL at hc
  rw [List.mem_filter] at hc
  exact ⟨hg c (List.mem_of_mem_take hc.1), of_decide_eq_true hc.2⟩
theorem pagain_runs {S : St} {av mv : AV} {l : List CnA} {m : List Nat} (hok : Sok S) (hav : ∀ S, Cs S av l) (hgood : ∀ c ∈ l, c.Good) (hmv : ∀ S, Rd S mv 1 (sbytes m) m.length) (hm : ∀ x ∈ m, x < 256) (hml : m.length ≤ 1048576) (hn : S.n ≤ 1000) :
    Runs X1 7 [av, mv] S fun r _ => r = .bool true := by
  refine Runs_fn (m := 62) (by kernel_rfl) Tryd.func7 rfl (by kernel_rfl) (by kernel_rfl) ?_
  repeat' (
    first
      | refine W_seq ?_
      | refine WO_nil ?_
      | refine V_seq ?_
      | refine W_region ?_
      | refine W_block ?_
      | refine WO_dst rfl rfl (by kernel_rfl) (by kernel_rfl) ?_
      | refine Ev_assign rfl ?_)
  refine W_inv (fun a : Nat × AV => [(6, .int .i64 ((a.1 : Nat) : Int)), (5, a.2), (0, av), (1, mv)]) (fun a T => Own T a.2 24 5 (cellsC (fineL l a.1)) (fineL l a.1).length ∧ Sok T ∧ a.1 ≤ l.length ∧ a.1 ≤ 60 ∧ T.n ≤ 40 * a.1 + 1000) (fun a => 61 - a.1) ?_ (0, .nils) ⟨.inl ⟨rfl, rfl, rfl⟩, hok, by omega, by omega, by omega⟩ ⟨rfl, rfl, rfl, rfl, trivial⟩
  rintro ⟨i, v⟩ T ⟨how, hokT, hil, hi, hTn⟩ back
  dsimp only at how hil hi hTn back
  have hfl := fineL_len l i
  repeat' (
    first
      | refine W_seq ?_
      | refine WO_nil ?_
      | refine V_seq ?_
      | refine W_region ?_
      | refine W_block ?_
      | refine W_skip ?_
      | refine W_exit ?_
      | refine V_block_x rfl ?_
      | refine V_seq_x ?_
      | refine V_loop_x ?_
      | refine W_cond_f rfl ?_
      | refine WO_dst rfl rfl (by kernel_rfl) (by kernel_rfl) ?_
      | refine WO_guard_t rfl rfl rfl rfl rfl (by kernel_rfl) (by kernel_rfl) ?_
      | refine WO_guard_f rfl rfl rfl rfl rfl rfl (by kernel_rfl) (by kernel_rfl) ?_
      | refine Ev_len rfl rfl rfl rfl rfl (hav T).len ?_
      | refine Ev_move rfl ?_
      | refine Ev_pick_t rfl rfl rfl ?_
      | refine Ev_pick_f rfl rfl rfl ?_
      | refine Ev_lssN rfl rfl ?_
      | (refine WO_guard_dt rfl rfl rfl rfl rfl (by kernel_rfl) (by kernel_rfl) (fun hg => ?_) (fun hg => ?_) <;> (try dsimp only at hg) <;> try (exfalso; first | omega | exact hg rfl))
      | (refine W_cond rfl (fun hc => ?_) (fun hc => ?_) <;> (try dsimp only at hc) <;> try (exfalso; first | omega | exact hc rfl)))
  · have hlt : i < l.length := by assumption
    have hcg : (l[i]).Good := hgood _ (List.getElem_mem _)
    have hs := fineL_s hlt
    refine Ev_indexAddr_rd rfl rfl rfl rfl rfl (hav T) hlt ?_
    intro q hq
    repeat (
      refine WO_dst rfl rfl (by kernel_rfl) (by kernel_rfl) ?_)
    refine Ev_load_pt_agg rfl rfl rfl hq (by rw [cellsC_len]; dsimp only; omega) (cellsC_get l i hlt) (CnA.veqs _) ?_
    repeat (
      refine WO_dst rfl rfl (by kernel_rfl) (by kernel_rfl) ?_)
    refine Ev_call rfl rfl ((right_runs hokT hcg (by omega)).mono ?_)
    rintro _ T1 - ⟨rfl, hF1⟩
    have gn1 := hF1.n
    have gl1 := hF1.le
    have how1 := how.keep (fun c h => hF1.same c (by simp [blkOf]) (how.lt hokT h))
    repeat' (
      first
        | refine WO_nil ?_
        | refine V_seq ?_
        | refine W_region ?_
        | refine W_skip ?_
        | refine V_block ?_
        | refine WO_dst rfl rfl (by kernel_rfl) (by kernel_rfl) ?_
        | refine Ev_move rfl ?_
        | refine Ev_assign rfl ?_
        | refine Ev_addN rfl rfl (by simp only [lim]; omega) ?_
        | (refine W_cond rfl (fun hc => ?_) (fun hc => ?_) <;> (try dsimp only at hc) <;> try (exfalso; first | omega | exact hc rfl)))
    · have hr : rightP l[i] := by assumption
      rw [if_pos hr] at hs
      refine Ev_indexAddr_rd rfl rfl rfl rfl rfl (hav T1) hlt ?_
      intro q2 hq2
      repeat (
        refine WO_dst rfl rfl (by kernel_rfl) (by kernel_rfl) ?_)
      refine Ev_load_pt_agg rfl rfl rfl hq2 (by rw [cellsC_len]; dsimp only; omega) (cellsC_get l i hlt) (CnA.veqs _) ?_
      repeat (
        refine WO_dst rfl rfl (by kernel_rfl) (by kernel_rfl) ?_)
      refine Ev_buildSlice rfl rfl rfl rfl rfl rfl hF1.ok (by omega) ?_
      intro T2 gn2 gok2 gq2 gf2
      have how2 := how1.keep (fun c h => gf2 c (how1.lt hF1.ok h))
      have hrd : Rd T2 (.slice T1.n 0 1 (.ex 1)) 5 (l[i]).cells 1 := Rd_lit gq2 rfl rfl
      repeat (
        refine WO_dst rfl rfl (by kernel_rfl) (by kernel_rfl) ?_)
      refine Ev_append rfl rfl rfl rfl rfl rfl rfl rfl rfl rfl how2 hrd (CnA.ones l[i]) gok2 (by omega) (by dsimp only; omega) (by omega) ?_
      intro v' T3 h1 h2 h3 h4 h5 h6
      repeat' (
        first
          | refine WO_nil ?_
          | refine V_seq ?_
          | refine W_region ?_
          | refine V_block ?_
          | refine WO_dst rfl rfl (by kernel_rfl) (by kernel_rfl) ?_
          | refine Ev_move rfl ?_
          | refine Ev_assign rfl ?_
          | refine Ev_addN rfl rfl (by simp only [lim]; omega) ?_)
      refine back (i + 1, v') T3 _ (by dsimp only; omega) ⟨?_, h3, hlt, by dsimp only; omega, by dsimp only; omega⟩ ⟨rfl, rfl, rfl, rfl, trivial⟩
      dsimp only
      rw [hs]
      exact h4.eq (by rw [cellsC_app]; simp [cellsC]) (by simp)
    · have hr : ¬ rightP l[i] := by assumption
      rw [if_neg hr] at hs
      refine back (i + 1, v) T1 _ (by dsimp only; omega) ⟨?_, hF1.ok, hlt, by dsimp only; omega, by dsimp only; omega⟩ ⟨rfl, rfl, rfl, rfl, trivial⟩
      dsimp only
      rw [hs]; exact how1
  all_goals
    obtain ⟨cs, hcs⟩ : ∃ cs, cs = fineL l i := ⟨_, rfl⟩
    have hfine := fineL_ok hgood i
    rw [← hcs] at how hfl hfine
    have hpl := poolL_len cs
    refine Ev_call rfl rfl ((new_runs hokT (by omega)).mono ?_)
    rintro _ S1 - ⟨rfl, gn1, gok1, gf1, hw1⟩
    have how1 := how.keep (fun c h => gf1 c (how.lt hokT h))
    have hlw : LW S1 T.n .nils v [] cs := ⟨gok1, hw1, how1.rd, fun e => by have := how.lt hokT e; omega, fun b hb e => by cases e⟩
    repeat' (
      first
        | refine W_seq ?_
        | refine WO_nil ?_
        | refine V_seq ?_
        | refine W_region ?_
        | refine WO_dst rfl rfl (by kernel_rfl) (by kernel_rfl) ?_
        | refine WO_guard_t rfl rfl rfl rfl rfl (by kernel_rfl) (by kernel_rfl) ?_
        | refine Ev_move rfl ?_
        | refine Ev_assign rfl ?_
        | refine Ev_ptr_eql rfl rfl rfl rfl ?_)
    refine Ev_call rfl rfl ((pwrite_runs hlw (fun c hc => (hfine c hc).1) (fun c hc => (hfine c hc).2) (by omega) (by simp) (by omega)).mono ?_)
    rintro _ S2 - ⟨rfl, vb2, h2, hF2⟩
    have gn2 := hF2.n
    repeat' (
      first
        | refine W_seq ?_
        | refine WO_nil ?_
        | refine V_seq ?_
        | refine W_region ?_
        | refine W_skip ?_
        | refine W_cond_f rfl ?_
        | refine WO_dst rfl rfl (by kernel_rfl) (by kernel_rfl) ?_
        | refine WO_guard_t rfl rfl rfl rfl rfl (by kernel_rfl) (by kernel_rfl) ?_
        | refine Ev_move rfl ?_
        | refine Ev_pick_f rfl rfl rfl ?_
        | refine Ev_neqN rfl rfl ?_)
    refine Ev_call rfl rfl ((wbytes_runs h2.ok h2.wr (hmv S2) (by simp only [List.length_append, List.length_nil]; omega) (by omega) (by omega)).mono ?_)
    rintro _ S3 - ⟨vb3, hw3, hF3⟩
    have h3 := h2.wf hF3 hw3
    have gn3 := hF3.n
    repeat (
      first
        | refine W_seq ?_
        | refine WO_nil ?_
        | refine V_seq ?_
        | refine W_region ?_
        | refine WO_dst rfl rfl (by kernel_rfl) (by kernel_rfl) ?_
        | refine Ev_move rfl ?_)
    refine Ev_call rfl rfl ((done_runs hF3.ok hw3 (by simp only [List.length_append, List.length_nil]; omega) (by omega)).mono ?_)
    rintro z S4 - ⟨hF4, hz, hzb⟩
    have h4 := h3.fr hF4
    have gn4 := hF4.n
    repeat (
      refine WO_dst rfl rfl (by kernel_rfl) (by kernel_rfl) ?_)
    refine Ev_call rfl rfl ((newrd_runs hF4.ok hz.rd (by simp only [List.length_append, List.length_nil]; omega) (by omega)).mono ?_)
    rintro _ S5 - ⟨p, vr, rfl, hp1, hp2, hrr, hvr, hF5⟩
    have h5 := h4.fr hF5
    have gn5 := hF5.n
    repeat' (
      first
        | refine W_seq ?_
        | refine WO_nil ?_
        | refine V_seq ?_
        | refine W_region ?_
        | refine W_skip ?_
        | refine W_cond_f rfl ?_
        | refine WO_dst rfl rfl (by kernel_rfl) (by kernel_rfl) ?_
        | refine Ev_move rfl ?_
        | refine Ev_assign rfl ?_
        | refine Ev_ptr_eql rfl rfl rfl rfl ?_)
    obtain ⟨B, hB⟩ : ∃ B, B = [] ++ poolL cs ++ m := ⟨_, rfl⟩
    rw [← hB] at hrr
    have hBl : B.length = (poolL cs).length + m.length := by rw [hB]; simp
    have hBd : B.drop 0 = poolL cs ++ m := by rw [hB]; simp
    have hBlt : ∀ x ∈ B, x < 256 := by
      intro x hx
      rw [hB, List.nil_append] at hx
      exact (List.mem_append.1 hx).elim (poolL_lt cs x) (hm x)
    refine Ev_call rfl rfl ((pread_runs hF5.ok hrr (by omega) hBlt (by decide) (by omega)).mono ?_)
    rintro w S6 - hL
    rw [readS_at hfine (by omega) hBd] at hL
    dsimp only at hL
    have hv6 : Cs S6 v cs := h5.cs.keep (fun c hc => hL.fr.same c (fun e => by have := h4.cs.lt hF4.ok (e ▸ hc); omega) (h5.cs.lt hF5.ok hc))
    repeat' (
      first
        | refine WO_dst rfl rfl (by kernel_rfl) (by kernel_rfl) ?_
        | refine Ev_move rfl ?_)
    refine Ev_call rfl rfl ((csame_runs hL.ow.rd hv6 ⟨by omega, by omega⟩).mono ?_)
    rintro _ S7 - ⟨rfl, hS7⟩
    rw [hS7, decide_eq_true rfl]
    repeat' (
      first
        | refine WO_dst rfl rfl (by kernel_rfl) (by kernel_rfl) ?_
        | refine WO_guard_t rfl rfl rfl rfl rfl (by kernel_rfl) (by kernel_rfl) ?_
        | refine Ev_move rfl ?_)
    refine Ev_call rfl rfl ((left_runs (by omega) hL.rr).mono ?_)
    rintro _ S8 - ⟨hS8, rfl⟩
    rw [hS8]
    have hleft : RdS.left ⟨0 + (poolL cs).length, 0, 0⟩ B = m.length := by
      unfold RdS.left; rw [if_neg (by simp)]; dsimp only; omega
    rw [hleft]
    repeat' (
      first
        | refine WO_dst rfl rfl (by kernel_rfl) (by kernel_rfl) ?_
        | refine WO_guard_t rfl rfl rfl rfl rfl (by kernel_rfl) (by kernel_rfl) ?_
        | refine Ev_len rfl rfl rfl rfl rfl (hmv S6).len ?_
        | refine Ev_move rfl ?_
        | refine Ev_pick_t rfl rfl rfl ?_
        | refine Ev_eqlN rfl rfl ?_
        | (refine WO_guard_dt rfl rfl rfl rfl rfl (by kernel_rfl) (by kernel_rfl) (fun hg => ?_) (fun hg => ?_) <;> (try dsimp only at hg) <;> try (exfalso; first | omega | exact hg rfl)))
    refine Ev_call rfl rfl (known_true ?_)
    repeat' (
      first
        | refine WO_nil ?_
        | refine V_seq ?_
        | refine W_ret ?_
        | refine WO_dst rfl rfl (by kernel_rfl) (by kernel_rfl) ?_
        | refine Ev_assign rfl ?_
        | refine Ev_pick_t rfl rfl rfl ?_)
    refine V_done rfl rfl ?_
    rfl
end Go.Proofs.YthhbnnnokmefoaaDoor
/- GX: reasoning about runs: loads of whole structs in a region that draws its order; two bools compared. -/

namespace GX
noncomputable section
open Go
section
variable {X : X} {l : L} {S : St} {R : AV → St → Prop} {t u : Nat} {x y : Operand} {D : List Fct} {i : Nat}
theorem load_eq_agg {e : Env} {H : Tr AB} {t : Nat} {x : Operand} {p : AV} {o : Nat} {i : TI} {cs ds : List AV} {m : Nat} (hx : opd e x = some p) (hi : X.ti t = some i) (hag : aggD i.desc = true) (hp : Pt { h := H, n := m } p cs o) (hle : o + i.size ≤ cs.length) (hv : (cs.drop o).take i.size = ds) : readOp X e H (.load t x) = some (.agg ds) := by
  unfold readOp; dsimp only; rw [hx]
  rcases hp with ⟨b, o0, ty, cs0, sp, rfl, h2, h3, h4⟩ | rfl
  · have hrow : row H b (o0 + o) i.size = some ds := by
      unfold row; rw [h2]; dsimp only; rw [nble, decide_eq_true (by omega)]; simp only [cond_true]; rw [drop_take_eq h4 hle, hv]
    dsimp only; unfold loadAt; rw [hi]; dsimp only
    split
    · rw [hrow]
    · rw [hrow]
    · rename_i h1 h2
      cases hd : i.desc with
      | struct f => exact absurd hd (h1 f)
      | array a b => exact absurd hd (h2 a b)
      | _ => rw [hd] at hag; cases hag
  · dsimp only; unfold loadR; rw [hi]; dsimp only
    split
    · rw [nble, decide_eq_true hle]; simp only [cond_true]; rw [hv]
    · rw [nble, decide_eq_true hle]; simp only [cond_true]; rw [hv]
    · rename_i h1 h2
      cases hd : i.desc with
      | struct f => exact absurd hd (h1 f)
      | array a b => exact absurd hd (h2 a b)
      | _ => rw [hd] at hag; cases hag
theorem FPD_loadA {t : Nat} {x : Operand} {p : AV} {o : Nat} {i' : TI} {cs ds : List AV} {ms : List Nat} (hx : od l x = some p) (hi : X.ti t = some i') (hag : aggD i'.desc = true) (hp : Pt S p cs o) (hle : o + i'.size ≤ cs.length) (hv : (cs.drop o).take i'.size = ds)
    (hb : ∀ b, blkOf p = some b → ∃ f ∈ D, f.id = b ∧ S.h.get b = some f.x ∧ ∀ j, f.src = some j → inM ms i j = true) :
    ∀ e, Ag l e → cls X e (.load t x) = .read ∧ FPD X D ms i e (.load t x) (.agg ds) := fun _ he =>
  ⟨rfl, fun H hH => load_eq_agg (m := S.n) (od_ok he hx) hi hag (hp.keep fun b h => by
    obtain ⟨f, h1, h2, h3, h4⟩ := hb b h
    show H.get b = _; rw [h3, ← h2]; exact hH f h1 h4) hle hv⟩
theorem FPD_loadA_n {o : Nat} {i' : TI} {cs ds : List AV} {ms : List Nat} (hx : od l x = some (.rptr cs o)) (hi : X.ti t = some i') (hag : aggD i'.desc = true) (hle : o + i'.size ≤ cs.length) (hv : (cs.drop o).take i'.size = ds) :
    ∀ e, Ag l e → cls X e (.load t x) = .read ∧ FPD X D ms i e (.load t x) (.agg ds) :=
  FPD_loadA (S := { h := .leaf, n := 0 }) hx hi hag (.inr rfl) hle hv (fun b hb => by cases hb)
theorem Ev_beql {a b : Bool} {i : TI} (hx : od l x = some (.bool a)) (hy : od l y = some (.bool b)) (hi : X.ti t = some i) (hd : i.desc = .bool) (hR : R (.bool (a == b)) S) : Ev X l S (.binOp .eql t x y u) R :=
  Ev_bin hx hy rfl (by unfold abin; dsimp only; unfold aeq; rw [hi]; dsimp only; rw [hd]) hR
end
end
end GX
/- carafelaw3.PoolWrites. (NODRAWN) -/





namespace Go.Proofs.YthhbnnnokmefoaaDoor
open GX
set_option maxHeartbeats 16000000
set_option maxRecDepth 100000
theorem rd_has {S : St} {v : AV} {sz : Nat} {cs : List AV} {m b : Nat} (h : Rd S v sz cs m) (hb : blkOf v = some b) : ∃ x, S.h.get b = some x := by
  cases v with
  | slice b' o n cap =>
    cases hb
    have hl := h.len
    cases hl
    obtain ⟨ty, cs0, sp, h1, _⟩ := h.cell
    exact ⟨_, h1⟩
  | ptr b' o => have := h.sl; cases this
  | map r => have := h.sl; cases this
  | _ => cases hb
/-- what is told of a slice's block -/
theorem rd_facts {S : St} {v : AV} {sz : Nat} {cs : List AV} {m : Nat} (i : Nat) (h : Rd S v sz cs m) (hok : Sok S) :
    ∃ N : List Fct, (∀ f ∈ N, f.src = some i ∧ f.id < S.n ∧ S.h.get f.id = some f.x) ∧ (∀ f ∈ N, blkOf v = some f.id) ∧ ∀ b, blkOf v = some b → ∃ f ∈ N, f.id = b ∧ S.h.get b = some f.x ∧ f.src = some i := by
  cases hb : blkOf v with
  | none => exact ⟨[], by simp, by simp, fun b h => by cases h⟩
  | some b =>
    obtain ⟨x, hx⟩ := rd_has h hb
    refine ⟨[⟨b, x, some i⟩], ?_, ?_, ?_⟩
    · intro f hf; rw [List.mem_singleton] at hf; subst hf
      exact ⟨rfl, h.lt hok hb, hx⟩
    · intro f hf; rw [List.mem_singleton] at hf; subst hf; rfl
    · intro b' hb'; cases hb'; exact ⟨_, List.mem_singleton.2 rfl, rfl, hx, rfl⟩
theorem Fr.tr {S T U : St} {k k' : Nat} (a : Fr S T .nils k) (b : Fr T U .nils k') : Fr S U .nils (k + k') :=
  ⟨Nat.le_trans a.le b.le, by have := a.n; have := b.n; omega, b.ok, fun c h1 h2 => by rw [b.same c h1 (by have := a.le; omega), a.same c h1 h2]⟩
theorem Fr.rd {S T : St} {k sz m : Nat} {v : AV} {cs : List AV} (a : Fr S T .nils k) (hok : Sok S) (h : Rd S v sz cs m) : Rd T v sz cs m := h.keep (fun c hc => a.same c (by simp [blkOf]) (h.lt hok hc))
theorem Fr.at {S T : St} {k b : Nat} {x : AB} (a : Fr S T .nils k) (hok : Sok S) (h : S.h.get b = some x) : T.h.get b = some x := by rw [a.same b (by simp [blkOf]) (hok _ _ h)]; exact h
theorem Fr.st {S T U : St} {x y : AB} (hn : T.n = S.n + 1) (hok : Sok T) (_ : T.h.get S.n = some x) (hf : ∀ c, c < S.n → T.h.get c = S.h.get c) (hn2 : U.n = T.n) (hq2 : U.h.get S.n = some y) (hf2 : ∀ c, c ≠ S.n → U.h.get c = T.h.get c) : Fr S U .nils 1 :=
  ⟨by omega, by omega, sok_upd hok (by omega) hn2 hq2 hf2, fun c _ h => by rw [hf2 c (by omega), hf c h]⟩
theorem getS_e {cs : List CnA} {n k : Int} : (getS cs n k).2 = 0 ∨ (getS cs n k).2 = 14 := by
  unfold getS
  split
  · exact .inr rfl
  · split
    · split
      · exact .inl rfl
      · exact .inr rfl
    · exact .inr rfl
theorem pwrites_runs {S : St} {av : AV} {l : List CnA} {c : CnA} {n0 k0 : Int} (hok : Sok S) (hav : ∀ S, Cs S av l) (hgood : ∀ c ∈ l, c.Good ∧ c.cl.length ≤ 1048576 ∧ c.nm.length ≤ 1048576 ∧ c.ds.length ≤ 1048576) (hc : c.Good) (hcs : c.cl.length ≤ 1048576 ∧ c.nm.length ≤ 1048576 ∧ c.ds.length ≤ 1048576) (hn : S.n ≤ 1000) :
    Runs X1 3 [av, .agg c.cells, .int .i64 n0, .int .i64 k0] S fun r _ => r = .bool true := by
  have han := rd_noblk hav
  obtain ⟨hc1, hc2, hc3⟩ := hcs
  refine Runs_fn (m := 156) (by kernel_rfl) Tryd.func3 rfl (by kernel_rfl) (by kernel_rfl) ?_
  repeat (
    first
      | refine W_seq ?_
      | refine W_region ?_
      | refine WO_dst rfl rfl (by kernel_rfl) (by kernel_rfl) ?_)
  refine Ev_box rfl hok (by omega) ?_
  intro S1 gn1 gok1 gq1 gf1
  have hq1 : S1.h.get S.n = some (.cells 24 c.cells false) := gq1
  obtain ⟨b5, hb5⟩ : ∃ b5, b5 = S.n := ⟨_, rfl⟩
  rw [← hb5] at hq1 ⊢
  repeat' (
    first
      | refine W_seq ?_
      | refine WO_nil ?_
      | refine V_seq ?_
      | refine W_region ?_
      | refine WO_dst rfl rfl (by kernel_rfl) (by kernel_rfl) ?_
      | refine Ev_len rfl rfl rfl rfl rfl (hav S1).len ?_
      | refine Ev_move rfl ?_
      | refine Ev_assign rfl ?_
      | refine Ev_gtrN rfl rfl ?_)
  refine W_cut (fun l' U => U = S1 ∧ ∃ av' cs, (∀ T, Cs T av' cs) ∧ cs.length ≤ 300 ∧ (∀ c ∈ cs, c.Good ∧ c.cl.length ≤ 1048576 ∧ c.nm.length ≤ 1048576 ∧ c.ds.length ≤ 1048576) ∧ sub [(0, av'), (2, .int .i64 n0), (3, .int .i64 k0), (5, .ptr b5 0)] l') ?_ ?_
  · repeat' (
      first
        | refine W_region ?_
        | refine W_skip ?_
        | refine WO_dst rfl rfl (by kernel_rfl) (by kernel_rfl) ?_
        | refine Ev_move rfl ?_
        | (refine W_cond rfl (fun hc => ?_) (fun hc => ?_) <;> (try dsimp only at hc) <;> try (exfalso; first | omega | exact hc rfl)))
    · refine Ev_slice_hi (hi := 300) rfl rfl rfl rfl rfl (hav S1) (by omega) ?_
      intro v' hv' hb'
      have hvn : blkOf v' = none := by
        cases hh : blkOf v' with
        | none => rfl
        | some d => have := hb' d hh; rw [han] at this; cases this
      repeat (
        first
          | refine WO_nil ?_
          | refine WO_dst rfl rfl (by kernel_rfl) (by kernel_rfl) ?_
          | refine Ev_assign rfl ?_)
      refine V_mid ⟨rfl, v', l.take 300, fun T => (hv'.eq (by show (cellsC l).take (300 * 5) = _; rw [cellsC_take]) (by rw [List.length_take]; omega)).keep (fun d hd => by rw [hvn] at hd; cases hd), by rw [List.length_take]; omega, fun c hc => hgood c (List.mem_of_mem_take hc), rfl, rfl, rfl, rfl, trivial⟩
    · exact V_mid ⟨rfl, av, l, hav, by omega, hgood, rfl, rfl, rfl, rfl, trivial⟩
  rintro l' _ ⟨rfl, av', cs, hcs, hc300, hcg, hs⟩
  rename_i S1
  refine V_weak hs ?_
  have hcn := rd_noblk hcs
  have hcg1 : ∀ c ∈ cs, c.Good := fun d hd => (hcg d hd).1
  repeat (
    first
      | refine W_seq ?_
      | refine V_seq ?_
      | refine W_region ?_
      | refine WO_dst rfl rfl (by kernel_rfl) (by kernel_rfl) ?_
      | refine Ev_move rfl ?_)
  refine Ev_call rfl rfl ((numc_runs gok1 (by omega)).mono ?_)
  rintro _ S2 - ⟨rfl, hF2⟩
  have gn2 := hF2.n
  repeat (
    refine WO_dst rfl rfl (by kernel_rfl) (by kernel_rfl) ?_)
  refine Ev_call rfl rfl ((roomyc_runs hF2.ok (hcs S2) (by omega) (by omega)).mono ?_)
  rintro full S3 - ⟨p, hfe, hp2, hfull, hF3⟩
  have gn3 := hF3.n
  have hpb : ∀ d, blkOf full = some d → d = p := fun d hd => by subst hfe; cases hd; rfl
  have hrl := roomyC_len cs (numC 77)
  repeat (
    first
      | refine W_seq ?_
      | refine WO_nil ?_
      | refine V_seq ?_
      | refine W_region ?_
      | refine WO_dst rfl rfl (by kernel_rfl) (by kernel_rfl) ?_
      | refine Ev_len rfl rfl rfl rfl rfl (hcs S3).len ?_
      | refine Ev_move rfl ?_
      | refine Ev_assign rfl ?_)
  refine Ev_slice_hi rfl rfl rfl rfl rfl hfull (by omega) ?_
  intro m hm hmb
  have hm3 : Cs S3 m cs := by
    refine hm.eq ?_ rfl
    show (cellsC (roomyC cs (numC 77))).take (cs.length * 5) = _
    rw [cellsC_take]; unfold roomyC; rw [List.take_left]
  repeat (
    first
      | refine W_seq ?_
      | refine WO_nil ?_
      | refine V_seq ?_
      | refine W_region ?_
      | refine WO_dst rfl rfl (by kernel_rfl) (by kernel_rfl) ?_
      | refine Ev_assign rfl ?_)
  refine Ev_call rfl rfl ((new_runs hF3.ok (by omega)).mono ?_)
  rintro _ S4 - ⟨rfl, gn4, gok4, gf4, hw4⟩
  have hF4 : Fr S3 S4 .nils 1 := ⟨by omega, by omega, gok4, fun c _ h => gf4 c h⟩
  have hfull4 := hF4.rd hF3.ok hfull
  have hm4 : Cs S4 m cs := hF4.rd hF3.ok hm3
  have hm3lt : ∀ d, blkOf m = some d → d < S3.n := fun d hd => hm3.lt hF3.ok hd
  have hf3lt : ∀ d, blkOf full = some d → d < S3.n := fun d hd => hfull.lt hF3.ok hd
  have hlw : LW S4 S3.n .nils m [] cs := ⟨gok4, hw4, hm4, fun e => by have := hm3lt _ e; omega, fun b hb e => by cases e⟩
  repeat' (
    first
      | refine W_seq ?_
      | refine WO_nil ?_
      | refine V_seq ?_
      | refine W_region ?_
      | refine W_skip ?_
      | refine W_cond_f rfl ?_
      | refine WO_dst rfl rfl (by kernel_rfl) (by kernel_rfl) ?_
      | refine Ev_move rfl ?_
      | refine Ev_assign rfl ?_
      | refine Ev_ptr_eql rfl rfl rfl rfl ?_)
  refine Ev_call rfl rfl ((pwriteA_runs hlw hcg1 (by omega) (by omega)).mono ?_)
  rintro _ S5 - ⟨rfl, vb5, hw5, hF5⟩
  have gn5 := hF5.n
  have hfull5 : Cs S5 full (roomyC cs (numC 77)) := hfull4.keep (fun d hd => hF5.same d (by have := hf3lt d hd; omega) (fun e => by cases e) (by have := hf3lt d hd; omega))
  have hq5 : S5.h.get b5 = some (.cells 24 c.cells false) := by
    rw [hF5.same b5 (by have := hF2.le; have := hF3.le; omega) (fun e => by cases e) (by have := hF2.le; have := hF3.le; omega), gf4 b5 (by have := hF2.le; have := hF3.le; omega)]
    exact hF3.at hF2.ok (hF2.at gok1 hq1)
  repeat (
    first
      | refine W_seq ?_
      | refine WO_nil ?_
      | refine V_seq ?_
      | refine W_region ?_
      | refine WO_dst rfl rfl (by kernel_rfl) (by kernel_rfl) ?_
      | refine Ev_move rfl ?_
      | refine Ev_assign rfl ?_)
  refine Ev_call rfl rfl ((rpwrite_runs hF5.ok (hcs S5) hcg (by omega) (by omega)).mono ?_)
  rintro _ S6 - ⟨w, rfl, hF6, how, hbk⟩
  have gn6 := hF6.n
  have hw6 := hw5.fr hF6
  have hfull6 := hF6.rd hF5.ok hfull5
  have hq6 := hF6.at hF5.ok hq5
  have hm6 : Cs S6 m cs := hw6.cs
  obtain ⟨E, hE⟩ : ∃ E, E = writeE cs := ⟨_, rfl⟩
  have hwr := hw6.wr
  rw [← hE] at how hwr ⊢
  have hpl := consts_len cs
  repeat (first | refine WO_dst rfl rfl (by kernel_rfl) (by kernel_rfl) ?_ | refine Ev_move rfl ?_ | refine Ev_extract rfl rfl ?_ | refine Ev_assign rfl ?_)
  refine WO_nil ?_
  refine V_seq ?_
  refine W_seq ?_
  refine W_cut (fun l' U => Fr S6 U .nils 10 ∧ sub [(0, av'), (2, .int .i64 n0), (3, .int .i64 k0), (5, .ptr b5 0), (9, full), (10, m)] l') ?_ ?_
  · by_cases hE0 : E = 0
    · subst hE0
      rw [if_pos rfl] at how hwr
      have hpl2 : (poolL cs).length ≤ 300000 := by unfold poolL; rw [List.length_append, numL_len]; omega
      rcases how with ⟨_, h0, _⟩ | ⟨wb, rfl, hcell, hcl⟩
      · exfalso
        have := congrArg List.length h0
        unfold poolL at this
        rw [sbytes_len, List.length_append, numL_len] at this
        simp at this
      have hwb := hF6.ok _ _ hcell
      have how6 : Own S6 (.slice wb 0 (poolL cs).length (.op 1)) 5 1 (sbytes (poolL cs)) (poolL cs).length := .inr ⟨wb, rfl, hcell, hcl⟩
      refine W_seq ?_
      refine W_drawnF [⟨wb, .cells 5 (sbytes (poolL cs)) true, none⟩] ?_ (by kernel_rfl) ?_
      · intro f hf; rw [List.mem_singleton] at hf; subst hf; exact ⟨rfl, hwb, hcell⟩
      repeat' (
        first
          | refine WF_guard_t rfl rfl rfl rfl rfl (by kernel_rfl) (by kernel_rfl) ?_
          | refine WF_pa rfl rfl (by kernel_rfl) (by kernel_rfl) rfl ?_
          | refine Ev_move rfl ?_
          | refine Ev_eqlN rfl rfl ?_
          | refine Ev_neqN rfl rfl ?_)
      refine WF_ld rfl rfl (by kernel_rfl) (by kernel_rfl) (fun _ _ => rfl) ?_
      refine Ev_call rfl rfl ((done_runs hF6.ok hwr (by omega) (by omega)).mono ?_)
      rintro z S7 - ⟨hF7, hz, hzb⟩
      obtain ⟨N, hN1, hN2, hN3⟩ := rd_facts 8 hz.rd hF7.ok
      have hc7 := hF7.at hF6.ok hcell
      have how7 := how6.rd.keep (fun d hd => hF7.same d (by simp [blkOf]) (how6.lt hF6.ok hd))
      refine ⟨?_, N, hN1, ?_⟩
      · intro f hf; rw [List.mem_singleton] at hf; subst hf; exact hc7
      have hD7 : ∀ f ∈ [(⟨wb, .cells 5 (sbytes (poolL cs)) true, none⟩ : Fct)] ++ N, S7.h.get f.id = some f.x := by
        intro f hf
        rcases List.mem_append.1 hf with hf | hf
        · rw [List.mem_singleton] at hf; subst hf; exact hc7
        · exact (hN1 f hf).2.2
      repeat' (
        refine WF_guard_t rfl rfl rfl rfl rfl (by kernel_rfl) (by kernel_rfl) ?_)
      refine WF_rf rfl rfl (by kernel_rfl) (by kernel_rfl) hD7 (FPD_conv rfl rfl rfl rfl rfl rfl rfl hz.rd (bytesOf_sbytes (poolL_lt cs)) (fun b hb => ?_)) (veq_str _) ?_
      · obtain ⟨f, k1, k2, k3, k4⟩ := hN3 b hb
        exact ⟨f, List.mem_append_right _ k1, k2, k3, fun j hj => by rw [k4] at hj; cases hj; kernel_rfl⟩
      repeat' (
        first
          | refine WF_guard_t rfl rfl rfl rfl rfl (by kernel_rfl) (by kernel_rfl) ?_
          | refine WF_pa rfl rfl (by kernel_rfl) (by kernel_rfl) rfl ?_
          | refine Ev_move rfl ?_)
      refine WF_rf rfl rfl (by kernel_rfl) (by kernel_rfl) hD7 (FPD_conv rfl rfl rfl rfl rfl rfl rfl how7 (bytesOf_sbytes (poolL_lt cs)) (fun b hb => ?_)) (veq_str _) ?_
      · cases hb
        exact ⟨_, List.mem_append_left _ (List.mem_singleton.2 rfl), rfl, hc7, fun j hj => by cases hj⟩
      repeat' (
        first
          | refine WF_nil ?_
          | refine WF_guard_t rfl rfl rfl rfl rfl (by kernel_rfl) (by kernel_rfl) ?_
          | refine WF_pa rfl rfl (by kernel_rfl) (by kernel_rfl) rfl ?_
          | refine V_seq ?_
          | refine W_skip ?_
          | refine Ev_pick_t rfl rfl rfl ?_
          | refine Ev_pick_f rfl rfl rfl ?_
          | refine Ev_sneq rfl rfl ?_
          | (refine W_cond rfl (fun hc => ?_) (fun hc => ?_) <;> (try dsimp only at hc) <;> try (exfalso; first | omega | exact hc rfl)))
      exact V_mid ⟨⟨hF7.le, by have := hF7.n; omega, hF7.ok, hF7.same⟩, rfl, rfl, rfl, rfl, rfl, rfl, trivial⟩
    · refine W_seq ?_
      refine W_drawnF [] (by simp) (by kernel_rfl) ?_
      repeat' (
        first
          | refine WF_nil ?_
          | refine WF_guard_t rfl rfl rfl rfl rfl (by kernel_rfl) (by kernel_rfl) ?_
          | refine WF_guard_f rfl rfl rfl rfl rfl rfl (by kernel_rfl) (by kernel_rfl) ?_
          | refine WF_pa rfl rfl (by kernel_rfl) (by kernel_rfl) rfl ?_
          | refine V_seq ?_
          | refine W_skip ?_
          | refine W_cond_f rfl ?_
          | refine Ev_move rfl ?_
          | refine Ev_pick_f rfl rfl rfl ?_
          | refine Ev_eql rfl rfl ?_
          | refine Ev_neq rfl rfl ?_
          | (refine WF_guard_dt rfl rfl rfl rfl rfl (by kernel_rfl) (by kernel_rfl) (fun hg => ?_) (fun hg => ?_) <;> (try dsimp only at hg) <;> try (exfalso; first | omega | exact hg rfl))
          | (refine WF_guard_df rfl rfl rfl rfl rfl (by kernel_rfl) (by kernel_rfl) (fun hg => ?_) (fun hg => ?_) <;> (try dsimp only at hg) <;> try (exfalso; first | omega | exact hg rfl)))
      exact V_mid ⟨⟨Nat.le_refl _, by omega, hF6.ok, fun _ _ _ => rfl⟩, rfl, rfl, rfl, rfl, rfl, rfl, trivial⟩
  rintro l'' U0 ⟨hU0, hs2⟩
  refine V_weak hs2 ?_
  have un0 := hU0.n
  have hfullU := hU0.rd hF6.ok hfull6
  have hqU := hU0.at hF6.ok hq6
  have hmU : Cs U0 m cs := hU0.rd hF6.ok hm6
  obtain ⟨G, hG⟩ : ∃ G, G = getS cs n0 k0 := ⟨_, rfl⟩
  have hGe : G.2 = 0 ∨ G.2 = 14 := by rw [hG]; exact getS_e
  repeat (
    first
      | refine W_seq ?_
      | refine V_seq ?_
      | refine W_region ?_
      | refine WO_dst rfl rfl (by kernel_rfl) (by kernel_rfl) ?_
      | refine Ev_move rfl ?_)
  refine Ev_call rfl rfl ((get_runs hU0.ok hmU (by omega) (by omega)).mono ?_)
  rintro _ U1 - ⟨rfl, hU1⟩
  rw [← hG]
  have un1 := hU1.n
  repeat (
    first
      | refine WO_dst rfl rfl (by kernel_rfl) (by kernel_rfl) ?_
      | refine Ev_move rfl ?_
      | refine Ev_extract rfl rfl ?_)
  refine Ev_alloc_ rfl hU1.ok (by omega) ?_
  intro U2a an2 aok2 aq2 af2
  repeat (
    refine WO_no rfl rfl ?_)
  refine Ev_store rfl rfl rfl rfl (CnA.ones _) aq2 (by simp [CnA.cells, AV.cells]) (by omega) ?_
  intro U2 sn2 sq2 sf2
  have hU2 : Fr U1 U2 .nils 1 := Fr.st an2 aok2 aq2 af2 sn2 sq2 sf2
  have hg2 : U2.h.get U1.n = some (.cells 24 G.1.cells false) := sq2
  have un2 := hU2.n
  repeat (
    first
      | refine W_seq ?_
      | refine WO_nil ?_
      | refine V_seq ?_
      | refine W_region ?_
      | refine WO_dst rfl rfl (by kernel_rfl) (by kernel_rfl) ?_
      | refine Ev_move rfl ?_
      | refine Ev_assign rfl ?_)
  refine Ev_call rfl rfl ((rget_runs hU2.ok (hcs U2) (by omega) (by omega)).mono ?_)
  rintro _ U3 - ⟨rfl, hU3⟩
  rw [← hG]
  have un3 := hU3.n
  repeat (
    first
      | refine WO_dst rfl rfl (by kernel_rfl) (by kernel_rfl) ?_
      | refine Ev_move rfl ?_
      | refine Ev_extract rfl rfl ?_)
  refine Ev_alloc_ rfl hU3.ok (by omega) ?_
  intro U4a an4 aok4 aq4 af4
  repeat (
    refine WO_no rfl rfl ?_)
  refine Ev_store rfl rfl rfl rfl (CnA.ones _) aq4 (by simp [CnA.cells, AV.cells]) (by omega) ?_
  intro U4 sn4 sq4 sf4
  have hU4 : Fr U3 U4 .nils 1 := Fr.st an4 aok4 aq4 af4 sn4 sq4 sf4
  have hg4 : U4.h.get U3.n = some (.cells 24 G.1.cells false) := sq4
  have un4 := hU4.n
  have hU04 : Fr U0 U4 .nils 4 := by
    have := ((hU1.tr hU2).tr hU3).tr hU4
    exact ⟨this.le, by have := this.n; omega, this.ok, this.same⟩
  have hq4 := hU04.at hU0.ok hqU
  repeat (
    first
      | refine W_seq ?_
      | refine WO_nil ?_
      | refine V_seq ?_
      | refine W_region ?_
      | refine WO_dst rfl rfl (by kernel_rfl) (by kernel_rfl) ?_
      | refine Ev_move rfl ?_
      | refine Ev_assign rfl ?_)
  refine Ev_load_agg rfl rfl rfl hq4 (by simp [CnA.cells]) (show (c.cells.drop 0).take 5 = c.cells from rfl) (CnA.veqs c) ?_
  repeat (
    refine WO_dst rfl rfl (by kernel_rfl) (by kernel_rfl) ?_)
  refine Ev_call rfl rfl ((add_runs hU4.ok (hU04.rd hU0.ok hmU) hc (by omega) (by omega)).mono ?_)
  rintro _ U5 - ⟨hU5, r1, rfl, hr1, hrb1⟩
  have un5 := hU5.n
  have hq5b := hU5.at hU4.ok hq4
  obtain ⟨A, hA⟩ : ∃ A, A = addS cs c := ⟨_, rfl⟩
  rw [← hA] at hr1 ⊢
  repeat (
    first
      | refine W_seq ?_
      | refine WO_nil ?_
      | refine V_seq ?_
      | refine W_region ?_
      | refine WO_dst rfl rfl (by kernel_rfl) (by kernel_rfl) ?_
      | refine Ev_move rfl ?_
      | refine Ev_assign rfl ?_
      | refine Ev_extract rfl rfl ?_)
  refine Ev_load_agg rfl rfl rfl hq5b (by simp [CnA.cells]) (show (c.cells.drop 0).take 5 = c.cells from rfl) (CnA.veqs c) ?_
  repeat (
    refine WO_dst rfl rfl (by kernel_rfl) (by kernel_rfl) ?_)
  refine Ev_call rfl rfl ((radd_runs hU5.ok (hcs U5) ⟨hc1, hc2, hc3⟩ (by omega) (by omega)).mono ?_)
  rintro _ U6 - ⟨hU6, r2, rfl, hr2, hrb2⟩
  have un6 := hU6.n
  rw [← hA] at hr2 ⊢
  have hAl : A.1.length ≤ 301 := by
    rw [hA]; unfold addS
    split
    · split
      · dsimp only; omega
      · split
        · simp
        · simp; omega
    · simp
  repeat' (
    first
      | refine W_seq ?_
      | refine WO_nil ?_
      | refine V_seq ?_
      | refine W_region ?_
      | refine W_block ?_
      | refine WO_dst rfl rfl (by kernel_rfl) (by kernel_rfl) ?_
      | refine Ev_move rfl ?_
      | refine Ev_assign rfl ?_
      | refine Ev_extract rfl rfl ?_)
  refine W_inv (fun i : Nat => [(25, .int .i64 ((i : Nat) : Int)), (0, av'), (5, .ptr b5 0), (9, full), (15, .ptr U1.n 0), (16, .int .i64 G.2), (17, .ptr U3.n 0), (18, .bool (decide (G.2 = 0))), (19, r1), (20, .int .i64 A.2.1), (21, .int .i64 A.2.2), (22, r2), (23, .int .i64 A.2.1), (24, .int .i64 A.2.2)]) (fun i T => Fr U6 T .nils (2100000 * i) ∧ i ≤ cs.length) (fun i => cs.length - i) ?_ 0 ⟨⟨Nat.le_refl _, Nat.le_refl _, hU6.ok, fun _ _ _ => rfl⟩, Nat.zero_le _⟩ ⟨rfl, rfl, rfl, rfl, rfl, rfl, rfl, rfl, rfl, rfl, rfl, rfl, rfl, rfl, trivial⟩
  rintro i T ⟨hT, hi⟩ back
  have tn := hT.n
  have tl := hT.le
  repeat' (
    first
      | refine W_seq ?_
      | refine WO_nil ?_
      | refine V_seq ?_
      | refine W_region ?_
      | refine WO_dst rfl rfl (by kernel_rfl) (by kernel_rfl) ?_
      | refine Ev_len rfl rfl rfl rfl rfl (hcs T).len ?_
      | refine Ev_move rfl ?_
      | refine Ev_lssN rfl rfl ?_)
  refine W_cond rfl (fun hlt => ?_) (fun hge => ?_)
  · have hlt2 : i < cs.length := hlt
    have hG1 := hcg _ (List.getElem_mem hlt2)
    repeat (
      first
        | refine W_seq ?_
        | refine V_seq ?_
        | refine W_skip ?_
        | refine W_block ?_)
    refine W_drawnF [] (by simp) (by kernel_rfl) ?_
    repeat (
      first
        | refine WF_pa rfl rfl (by kernel_rfl) (by kernel_rfl) rfl ?_
        | refine Ev_indexAddr_n rfl rfl rfl rfl rfl (hcs T) hcn hlt2 ?_
        | refine Ev_move rfl ?_)
    refine WF_rf rfl rfl (by kernel_rfl) (by kernel_rfl) (by simp) (FPD_loadA_n rfl rfl rfl (by rw [cellsC_len]; dsimp only; omega) (cellsC_get cs i hlt2)) (by unfold veq; exact CnA.veqs _) ?_
    repeat (
      refine W_seq ?_)
    refine WF_ld rfl rfl (by kernel_rfl) (by kernel_rfl) (fun _ _ => rfl) ?_
    refine Ev_call rfl rfl ((right_runs hT.ok hG1.1 (by omega)).mono ?_)
    rintro _ T1 - ⟨rfl, hT1⟩
    have tn1 := hT1.n
    refine ⟨by simp, [], by simp, ?_⟩
    repeat (
      first
        | refine WF_pa rfl rfl (by kernel_rfl) (by kernel_rfl) rfl ?_
        | refine Ev_indexAddr_n rfl rfl rfl rfl rfl (hcs T1) hcn hlt2 ?_
        | refine Ev_move rfl ?_)
    refine WF_rf rfl rfl (by kernel_rfl) (by kernel_rfl) (by simp) (FPD_loadA_n rfl rfl rfl (by rw [cellsC_len]; dsimp only; omega) (cellsC_get cs i hlt2)) (by unfold veq; exact CnA.veqs _) ?_
    repeat (
      refine W_seq ?_)
    refine WF_ld rfl rfl (by kernel_rfl) (by kernel_rfl) (fun _ _ => rfl) ?_
    refine Ev_call rfl rfl ((rright_runs hT1.ok hG1.2 (by omega)).mono ?_)
    rintro _ T2 - ⟨rfl, hT2⟩
    have tn2 := hT2.n
    have hd1 := hG1.2.2.2
    refine ⟨by simp, [], by simp, ?_⟩
    repeat (
      first
        | refine WF_nil ?_
        | refine WF_pa rfl rfl (by kernel_rfl) (by kernel_rfl) rfl ?_
        | refine V_seq ?_
        | refine Ev_bneq rfl rfl rfl rfl ?_)
    rw [show (!(decide (rightP cs[i]) == decide (rightP cs[i]))) = false by simp]
    repeat' (
      first
        | refine WO_nil ?_
        | refine V_seq ?_
        | refine W_region ?_
        | refine W_skip ?_
        | refine V_block ?_
        | refine W_cond_f rfl ?_
        | refine WO_dst rfl rfl (by kernel_rfl) (by kernel_rfl) ?_
        | refine Ev_move rfl ?_
        | refine Ev_assign rfl ?_
        | refine Ev_addN rfl rfl (by simp only [lim]; omega) ?_)
    have hT02 := (hT.tr hT1).tr hT2
    exact back (i + 1) T2 _ (by omega) ⟨⟨hT02.le, by have := hT02.n; omega, hT02.ok, hT02.same⟩, by omega⟩ ⟨rfl, rfl, rfl, rfl, rfl, rfl, rfl, rfl, rfl, rfl, rfl, rfl, rfl, rfl, trivial⟩
  · have h2T := (((hU3.tr hU4).tr hU5).tr hU6).tr hT
    have h4T := (hU5.tr hU6).tr hT
    have d15 := h2T.at hU2.ok hg2
    have d17 := h4T.at hU4.ok hg4
    have d5 := h4T.at hU4.ok hq4
    have hr1T : Cs T r1 A.1 := (hU6.tr hT).rd hU5.ok hr1.rd
    have hr2T : Cs T r2 A.1 := hT.rd hU6.ok hr2.rd
    have hfullT : Cs T full (roomyC cs (numC 77)) := (hU04.tr h4T).rd hU0.ok hfullU
    rcases hGe with hg0 | hg0
    all_goals
      rw [hg0]
      repeat (
        first
          | refine W_seq ?_
          | refine V_seq ?_
          | refine W_exit ?_
          | refine V_block_x rfl ?_
          | refine V_seq_x ?_
          | refine V_loop_x ?_)
      refine W_drawnF [⟨U1.n, .cells 24 G.1.cells false, none⟩, ⟨U3.n, .cells 24 G.1.cells false, none⟩, ⟨b5, .cells 24 c.cells false, none⟩] ?_ (by kernel_rfl) ?_
      · intro f hf
        simp only [List.mem_cons, List.not_mem_nil, or_false] at hf
        rcases hf with rfl | rfl | rfl
        · exact ⟨rfl, hT.ok _ _ d15, d15⟩
        · exact ⟨rfl, hT.ok _ _ d17, d17⟩
        · exact ⟨rfl, hT.ok _ _ d5, d5⟩
      have hD : ∀ f ∈ [(⟨U1.n, .cells 24 G.1.cells false, none⟩ : Fct), ⟨U3.n, .cells 24 G.1.cells false, none⟩, ⟨b5, .cells 24 c.cells false, none⟩], T.h.get f.id = some f.x := by
        intro f hf
        simp only [List.mem_cons, List.not_mem_nil, or_false] at hf
        rcases hf with rfl | rfl | rfl
        · exact d15
        · exact d17
        · exact d5
      repeat (
        refine W_seq ?_)
      refine WF_rf rfl rfl (by kernel_rfl) (by kernel_rfl) hD (FPD_loadA (p := .ptr U1.n 0) rfl rfl rfl (pt_of d15) (by simp [CnA.cells]) (show (G.1.cells.drop 0).take 5 = G.1.cells from rfl) (fun b hb => by cases hb; exact ⟨_, List.mem_cons_self .., rfl, d15, fun j hj => by cases hj⟩)) (by unfold veq; exact CnA.veqs _) ?_
      repeat (
        refine W_seq ?_)
      refine WF_rf rfl rfl (by kernel_rfl) (by kernel_rfl) hD (FPD_loadA (p := .ptr U3.n 0) rfl rfl rfl (pt_of d17) (by simp [CnA.cells]) (show (G.1.cells.drop 0).take 5 = G.1.cells from rfl) (fun b hb => by cases hb; exact ⟨_, List.mem_cons_of_mem _ (List.mem_cons_self ..), rfl, d17, fun j hj => by cases hj⟩)) (by unfold veq; exact CnA.veqs _) ?_
      repeat (
        first
          | refine WF_pa rfl rfl (by kernel_rfl) (by kernel_rfl) rfl ?_
          | refine Ev_ceql rfl rfl ?_
          | refine Ev_move rfl ?_)
      rw [decide_eq_true rfl]
      repeat' (
        first
          | refine WF_guard_t rfl rfl rfl rfl rfl (by kernel_rfl) (by kernel_rfl) ?_
          | refine WF_guard_f rfl rfl rfl rfl rfl rfl (by kernel_rfl) (by kernel_rfl) ?_
          | refine WF_pa rfl rfl (by kernel_rfl) (by kernel_rfl) rfl ?_
          | refine Ev_beql rfl rfl rfl rfl ?_
          | refine Ev_move rfl ?_
          | refine Ev_pick_t rfl rfl rfl ?_
          | refine Ev_pick_f rfl rfl rfl ?_
          | refine Ev_eqlN rfl rfl ?_)
      refine WF_ld rfl rfl (by kernel_rfl) (by kernel_rfl) (fun _ _ => rfl) ?_
      refine Ev_call rfl rfl ((csame_runs hr1T hr2T ⟨by omega, by omega⟩).mono ?_)
      rintro _ Ta - ⟨rfl, hTa⟩
      rw [hTa, decide_eq_true rfl]
      refine ⟨hD, [], by simp, ?_⟩
      repeat' (
        first
          | refine WF_guard_t rfl rfl rfl rfl rfl (by kernel_rfl) (by kernel_rfl) ?_
          | refine WF_pa rfl rfl (by kernel_rfl) (by kernel_rfl) rfl ?_
          | refine Ev_move rfl ?_
          | refine Ev_pick_t rfl rfl rfl ?_
          | refine Ev_eql rfl rfl ?_
          | (refine WF_guard_dt rfl rfl rfl rfl rfl (by kernel_rfl) (by kernel_rfl) (fun hg => ?_) (fun hg => ?_) <;> (try dsimp only at hg) <;> try (exfalso; first | omega | exact hg rfl)))
      refine WF_rf rfl rfl (by kernel_rfl) (by kernel_rfl) (fun f hf => hD f (by simpa using hf)) (FPD_loadA (p := .ptr b5 0) rfl rfl rfl (pt_of d5) (by simp [CnA.cells]) (show (c.cells.drop 0).take 5 = c.cells from rfl) (fun b hb => by cases hb; exact ⟨_, List.mem_append_left _ (List.mem_cons_of_mem _ (List.mem_cons_of_mem _ (List.mem_cons_self ..))), rfl, d5, fun j hj => by cases hj⟩)) (by unfold veq; exact CnA.veqs _) ?_
      repeat' (
        refine WF_guard_t rfl rfl rfl rfl rfl (by kernel_rfl) (by kernel_rfl) ?_)
      refine WF_ld rfl rfl (by kernel_rfl) (by kernel_rfl) (fun _ _ => rfl) ?_
      refine Ev_call rfl rfl ((right_runs hT.ok hc (by omega)).mono ?_)
      rintro _ Tb - ⟨rfl, hTb⟩
      have tnb := hTb.n
      have d5b := hTb.at hT.ok d5
      refine ⟨fun f hf => hTb.at hT.ok (hD f (by simpa using hf)), [], by simp, ?_⟩
      repeat' (
        refine WF_guard_t rfl rfl rfl rfl rfl (by kernel_rfl) (by kernel_rfl) ?_)
      refine WF_rf rfl rfl (by kernel_rfl) (by kernel_rfl) (fun f hf => hTb.at hT.ok (hD f (by simpa using hf))) (FPD_loadA (p := .ptr b5 0) rfl rfl rfl (pt_of d5b) (by simp [CnA.cells]) (show (c.cells.drop 0).take 5 = c.cells from rfl) (fun b hb => by cases hb; exact ⟨_, List.mem_append_left _ (List.mem_append_left _ (List.mem_cons_of_mem _ (List.mem_cons_of_mem _ (List.mem_cons_self ..)))), rfl, d5b, fun j hj => by cases hj⟩)) (by unfold veq; exact CnA.veqs _) ?_
      repeat' (
        refine WF_guard_t rfl rfl rfl rfl rfl (by kernel_rfl) (by kernel_rfl) ?_)
      refine WF_ld rfl rfl (by kernel_rfl) (by kernel_rfl) (fun _ _ => rfl) ?_
      refine Ev_call rfl rfl ((rright_runs hTb.ok ⟨hc1, hc2, hc3⟩ (by omega)).mono ?_)
      rintro _ Tc - ⟨rfl, hTc⟩
      have tnc := hTc.n
      have hTac := hTb.tr hTc
      refine ⟨fun f hf => hTac.at hT.ok (hD f (by simpa using hf)), [], by simp, ?_⟩
      repeat (
        first
          | refine WF_guard_t rfl rfl rfl rfl rfl (by kernel_rfl) (by kernel_rfl) ?_
          | refine WF_pa rfl rfl (by kernel_rfl) (by kernel_rfl) rfl ?_
          | refine Ev_beql rfl rfl rfl rfl ?_
          | refine Ev_move rfl ?_
          | refine Ev_pick_t rfl rfl rfl ?_)
      rw [show (decide (rightP c) == decide (rightP c)) = true by simp]
      repeat' (
        first
          | refine WF_guard_t rfl rfl rfl rfl rfl (by kernel_rfl) (by kernel_rfl) ?_
          | refine WF_pa rfl rfl (by kernel_rfl) (by kernel_rfl) rfl ?_
          | refine Ev_move rfl ?_)
      refine WF_ld rfl rfl (by kernel_rfl) (by kernel_rfl) (fun _ _ => rfl) ?_
      refine Ev_call rfl rfl ((numc_runs hTc.ok (by omega)).mono ?_)
      rintro _ Td - ⟨rfl, hTd⟩
      have tnd := hTd.n
      have hTad := hTac.tr hTd
      refine ⟨fun f hf => hTad.at hT.ok (hD f (by simpa using hf)), [], by simp, ?_⟩
      repeat' (
        refine WF_guard_t rfl rfl rfl rfl rfl (by kernel_rfl) (by kernel_rfl) ?_)
      refine WF_ld rfl rfl (by kernel_rfl) (by kernel_rfl) (fun _ _ => rfl) ?_
      refine Ev_call rfl rfl ((intactc_runs hTd.ok (hTad.rd hT.ok hfullT) (hcs Td) (by omega) (by omega)).mono ?_)
      rintro _ Te - ⟨rfl, hTe⟩
      have hTae := hTad.tr hTe
      refine ⟨fun f hf => hTae.at hT.ok (hD f (by simpa using hf)), [], by simp, ?_⟩
      repeat' (
        first
          | refine WF_guard_t rfl rfl rfl rfl rfl (by kernel_rfl) (by kernel_rfl) ?_
          | refine WF_pa rfl rfl (by kernel_rfl) (by kernel_rfl) rfl ?_
          | refine Ev_move rfl ?_
          | refine Ev_pick_t rfl rfl rfl ?_)
      refine WF_ld rfl rfl (by kernel_rfl) (by kernel_rfl) (fun _ _ => rfl) ?_
      refine Ev_call rfl rfl (known_true ?_)
      refine ⟨fun f hf => hTae.at hT.ok (hD f (by simpa using hf)), [], by simp, ?_⟩
      repeat' (
        first
          | refine WF_nil ?_
          | refine WF_pa rfl rfl (by kernel_rfl) (by kernel_rfl) rfl ?_
          | refine V_seq ?_
          | refine W_ret ?_
          | refine Ev_assign rfl ?_
          | refine Ev_pick_t rfl rfl rfl ?_)
      refine V_done rfl rfl ?_
      rfl
end Go.Proofs.YthhbnnnokmefoaaDoor
