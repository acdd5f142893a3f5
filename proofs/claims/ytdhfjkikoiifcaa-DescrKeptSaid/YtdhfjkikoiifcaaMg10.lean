/- What the row leans on, part 10: texts one behind the other. No condition. -/
import Derived.Test.YtdhfjkikoiifcaaMg9
import Derived.Test.YtdhfjkikoiifcaaMg8
import Derived.KernelRfl
/- descr.Method; caraferef2's one, Field, Method. -/



namespace Go.Proofs.Ytdhfjkikoiifcaa
open GX
set_option maxHeartbeats 8000000
/-- the fields with which a text begins, at most so many, and the rest -/
def fieldsM : Nat → List Nat → List (List Nat) × List Nat
  | 0, s => ([], s)
  | k + 1, s => if oneS s = 0 then ([], s) else (s.take (oneS s) :: (fieldsM k (s.drop (oneS s))).1, (fieldsM k (s.drop (oneS s))).2)
theorem fieldsM_s (k : Nat) (s : List Nat) : fieldsM (k + 1) s = if oneS s = 0 then ([], s) else (s.take (oneS s) :: (fieldsM k (s.drop (oneS s))).1, (fieldsM k (s.drop (oneS s))).2) := rfl
theorem fieldsM_stop {s : List Nat} (h : oneS s = 0) : ∀ k, fieldsM k s = ([], s)
  | 0 => rfl
  | k + 1 => by unfold fieldsM; rw [if_pos h]
theorem fieldsM_add : ∀ (a b : Nat) (s : List Nat), fieldsM (a + b) s = ((fieldsM a s).1 ++ (fieldsM b (fieldsM a s).2).1, (fieldsM b (fieldsM a s).2).2)
  | 0, b, s => by simp [fieldsM]
  | a + 1, b, s => by
    rw [show a + 1 + b = (a + b) + 1 by omega]
    by_cases h : oneS s = 0
    · rw [fieldsM_stop h, fieldsM_stop h, fieldsM_stop h]; simp
    · rw [fieldsM_s, fieldsM_s, if_neg h, if_neg h]
      rw [fieldsM_add a b]; simp
theorem fieldsM_len : ∀ (k : Nat) (s : List Nat), (fieldsM k s).1.length ≤ k ∧ (fieldsM k s).2.length ≤ s.length
  | 0, s => by simp [fieldsM]
  | k + 1, s => by
    unfold fieldsM
    have := fieldsM_len k (s.drop (oneS s))
    split
    · simp
    · simp only [List.length_cons, List.length_drop] at this ⊢; omega
theorem fieldsM_next {n : Nat} {s : List Nat} : fieldsM (n + 1) s = if oneS (fieldsM n s).2 = 0 then fieldsM n s else ((fieldsM n s).1 ++ [(fieldsM n s).2.take (oneS (fieldsM n s).2)], (fieldsM n s).2.drop (oneS (fieldsM n s).2)) := by
  rw [fieldsM_add n 1]
  by_cases h : oneS (fieldsM n s).2 = 0
  · rw [if_pos h, fieldsM_stop h]; simp
  · rw [if_neg h]
    have e : fieldsM 1 (fieldsM n s).2 = ([(fieldsM n s).2.take (oneS (fieldsM n s).2)], (fieldsM n s).2.drop (oneS (fieldsM n s).2)) := by
      rw [fieldsM_s, if_neg h]; rfl
    rw [e]
/-- what a method takes and answers -/
def methS (s : List Nat) : Option (List (List Nat) × List Nat) :=
  if s.take 1 = [40] ∧ (fieldsM 8 (s.drop 1)).2.take 1 = [41] ∧ ((fieldsM 8 (s.drop 1)).2.drop 1 = [86] ∨ fieldP ((fieldsM 8 (s.drop 1)).2.drop 1)) then
    some ((fieldsM 8 (s.drop 1)).1, (fieldsM 8 (s.drop 1)).2.drop 1) else none
def methR (s : List Nat) : List (List Nat) × List Nat := match methS s with | some x => x | none => ([], [])
/-- what a function that reads a method answers -/
structure MethO (S : St) (s : List Nat) (k : Nat) (v : AV) (S' : St) : Prop where
  fr : Fr S S' .nils k
  val : ∃ sl, v = .tup [sl, .str (methR s).2, .bool (decide ((methS s).isSome = true))] ∧ Own S' sl 9 1 ((methR s).1.map .str) (methR s).1.length ∧ ∀ c, blkOf sl = some c → S.n ≤ c
theorem trimP_one {s : List Nat} {c : Nat} : trimP s [c] = if s.take 1 = [c] then s.drop 1 else s := rfl
theorem base1_le : ∀ (s : List Nat), base1 s ≤ s.length
  | [] => Nat.le_refl _
  | c :: r => by
    rw [base1_cons]
    split
    · simp
    · split
      · split
        · rename_i k hk
          have := (semi_some hk).1
          split
          · simp; omega
          · simp
        · simp
      · simp
theorem oneS_le (s : List Nat) : oneS s ≤ s.length := by
  cases s with
  | nil => simp [oneS]
  | cons c r =>
    rw [oneS_cons]
    split
    · split
      · simp
      · have := base1_le r; simp; omega
    · exact base1_le _
theorem strs_rd {S : St} {q : Nat} {x : List Nat} (h : S.h.get q = some (.cells 9 [.str x] false)) : Rd S (.slice q 0 1 (.ex 1)) 1 [.str x] 1 := Rd_lit h rfl rfl
theorem method_runs {S : St} {s : List Nat} (hok : Sok S) (hs : s.length < 9223372036854775808) (hn : S.n + 20 ≤ 1000000000) : Runs X1 8 [.str s] S (MethO S s 18) := by
  refine Runs_fn (m := 54) (by kernel_rfl) Try.func8 rfl (by kernel_rfl) (by kernel_rfl) ?_
  repeat' (
    first
      | refine W_seq ?_
      | refine WO_nil ?_
      | refine V_seq ?_
      | refine W_region ?_
      | refine W_scope ?_
      | refine WO_dst rfl rfl (by kernel_rfl) (by kernel_rfl) ?_
      | refine Ev_move rfl ?_
      | refine Ev_assign rfl ?_)
  refine Ev_call rfl rfl ((scutp_runs (p := [40])).mono ?_)
  rintro _ _ - ⟨rfl, rfl⟩
  rename_i S
  by_cases hb : s.take 1 = [40]
  · rw [decide_eq_true (show s.take [40].length = [40] from hb), trimP_one, if_pos hb]
    repeat' (
      first
        | refine W_seq ?_
        | refine WO_nil ?_
        | refine V_seq ?_
        | refine W_region ?_
        | refine W_block ?_
        | refine W_skip ?_
        | refine W_label ?_
        | refine W_cond_f rfl ?_
        | refine WO_dst rfl rfl (by kernel_rfl) (by kernel_rfl) ?_
        | refine Ev_move rfl ?_
        | refine Ev_assign rfl ?_
        | refine Ev_extract rfl rfl ?_
        | refine Ev_notb rfl ?_)
    refine W_inv (fun a : Nat × AV => [(5, .str (fieldsM a.1 (s.drop 1)).2), (7, a.2)]) (fun a T => Fr S T .nils (2 * a.1) ∧ (fieldsM a.1 (s.drop 1)).1.length = a.1 ∧ a.1 ≤ 8 ∧ Own T a.2 9 1 ((fieldsM a.1 (s.drop 1)).1.map .str) a.1 ∧ ∀ c, blkOf a.2 = some c → S.n ≤ c) (fun a => 9 - a.1) ?_ (0, .nils) ⟨⟨Nat.le_refl _, Nat.le_refl _, hok, fun _ _ _ => rfl⟩, rfl, by simp, .inl ⟨rfl, rfl, rfl⟩, fun c hc => by cases hc⟩ ⟨rfl, rfl, trivial⟩
    rintro ⟨i, w⟩ T ⟨hF, hl, hi, how, hbw⟩ back
    dsimp only at hF hl hi how hbw back
    have hq := (fieldsM_len i (s.drop 1)).2
    rw [List.length_drop] at hq
    have gn := hF.n
    have gl := hF.le
    repeat' (
      first
        | refine W_seq ?_
        | refine W_region ?_
        | refine W_block ?_
        | refine WO_dst rfl rfl (by kernel_rfl) (by kernel_rfl) ?_
        | refine Ev_move rfl ?_)
    refine Ev_call rfl rfl ((split_runs (by dsimp only; omega)).mono ?_)
    rintro _ _ - ⟨rfl, rfl⟩
    rename_i T
    have hnx := fieldsM_next (n := i) (s := s.drop 1)
    obtain ⟨q, hqe⟩ : ∃ q, q = (fieldsM i (s.drop 1)).2 := ⟨_, rfl⟩
    rw [← hqe] at hq hnx
    have hle := oneS_le q
    dsimp only
    rw [← hqe]
    repeat' (
      first
        | refine W_seq ?_
        | refine WO_nil ?_
        | refine V_seq ?_
        | refine W_region ?_
        | refine W_block ?_
        | refine W_exit ?_
        | refine V_block_x rfl ?_
        | refine V_block_y rfl ?_
        | refine V_loop_x ?_
        | refine W_cond_f rfl ?_
        | refine WO_dst rfl rfl (by kernel_rfl) (by kernel_rfl) ?_
        | refine WO_guard_t rfl rfl rfl rfl rfl (by kernel_rfl) (by kernel_rfl) ?_
        | refine WO_guard_f rfl rfl rfl rfl rfl rfl (by kernel_rfl) (by kernel_rfl) ?_
        | refine Ev_len rfl rfl rfl rfl rfl how.rd.len ?_
        | refine Ev_slice_str (lo' := none) (hi' := some (.int .i64 ((oneS q : Nat) : Int))) (mx' := none) rfl rfl rfl rfl rfl rfl (str_hi (by omega)) ?_
        | refine Ev_move rfl ?_
        | refine Ev_assign rfl ?_
        | refine Ev_pick_t rfl rfl rfl ?_
        | refine Ev_pick_f rfl rfl rfl ?_
        | refine Ev_lssN rfl rfl ?_
        | refine Ev_gtrN rfl rfl ?_
        | (refine WO_guard_dt rfl rfl rfl rfl rfl (by kernel_rfl) (by kernel_rfl) (fun hg => ?_) (fun hg => ?_) <;> (try dsimp only at hg) <;> try (exfalso; first | omega | exact hg rfl))
        | (refine W_cond rfl (fun hc => ?_) (fun hc => ?_) <;> (try dsimp only at hc) <;> try (exfalso; first | omega | exact hc rfl)))
    · refine Ev_buildSlice rfl rfl rfl rfl rfl rfl hF.ok (by omega) ?_
      intro T1 n1 ok1 q1 f1
      have how1 := how.keep (fun c hc => f1 c (how.lt hF.ok hc))
      repeat (
        refine WO_dst rfl rfl (by kernel_rfl) (by kernel_rfl) ?_)
      refine Ev_append rfl rfl rfl rfl rfl rfl rfl rfl rfl rfl how1 (strs_rd q1) (by simp [AV.one]) ok1 (by omega) (by dsimp only; omega) (by omega) ?_
      intro w2 T2 gl2 gn2 gok2 how2 gf2 gb2
      rw [if_neg (by omega)] at hnx
      repeat (
        first
          | refine WO_nil ?_
          | refine V_seq ?_
          | refine W_region ?_
          | refine V_block ?_
          | refine WO_dst rfl rfl (by kernel_rfl) (by kernel_rfl) ?_
          | refine Ev_slice_str (lo' := some (.int .i64 ((oneS q : Nat) : Int))) (hi' := none) (mx' := none) rfl rfl rfl rfl rfl rfl (str_lo (by omega)) ?_
          | refine Ev_move rfl ?_
          | refine Ev_assign rfl ?_)
      refine back (i + 1, w2) T2 _ (by dsimp only; omega) ⟨⟨by omega, by dsimp only; omega, gok2, fun c _ h => ?_⟩, ?_, by dsimp only; omega, ?_, fun c hc => ?_⟩ ⟨?_, rfl, trivial⟩
      · rw [gf2 c (fun e => by have := hbw c e; omega) (by omega), f1 c (by omega), hF.same c (by simp [blkOf]) h]
      · dsimp only; rw [hnx, List.length_append, hl]; rfl
      · dsimp only; rw [hnx]; exact how2.eq (by simp) rfl
      · rcases gb2 c hc with h | h
        · exact hbw c h
        · omega
      · show some (AV.str _) = some (AV.str (fieldsM (i + 1) (s.drop 1)).2)
        rw [hnx]
    all_goals
      have he : fieldsM 8 (s.drop 1) = ((fieldsM i (s.drop 1)).1, q) := by
        have h8 : i = 8 ∨ oneS q = 0 := by omega
        rcases h8 with h8 | h8
        · rw [← h8, hqe]
        · have := fieldsM_add i (8 - i) (s.drop 1)
          rw [show i + (8 - i) = 8 by omega, ← hqe, fieldsM_stop h8] at this
          rw [this]; simp
      refine Ev_call rfl rfl ((scutp_runs (p := [41])).mono ?_)
      rintro _ _ - ⟨rfl, rfl⟩
      rename_i T
      by_cases hb2 : q.take 1 = [41]
      · rw [decide_eq_true (show q.take [41].length = [41] from hb2), trimP_one, if_pos hb2]
        obtain ⟨res, hres⟩ : ∃ res, res = q.drop 1 := ⟨_, rfl⟩
        rw [← hres]
        have hrl : res.length ≤ q.length := by rw [hres, List.length_drop]; omega
        by_cases hv : res = [86]
        · have e : methS s = some ((fieldsM i (s.drop 1)).1, res) := by
            unfold methS; rw [he]; dsimp only
            rw [← hres, if_pos ⟨hb, hb2, .inl hv⟩]
          subst hv
          repeat' (
            first
              | refine W_seq ?_
              | refine WO_nil ?_
              | refine V_seq ?_
              | refine W_region ?_
              | refine W_skip ?_
              | refine W_ret ?_
              | refine W_cond_f rfl ?_
              | refine WO_dst rfl rfl (by kernel_rfl) (by kernel_rfl) ?_
              | refine WO_guard_t rfl rfl rfl rfl rfl (by kernel_rfl) (by kernel_rfl) ?_
              | refine WO_guard_f rfl rfl rfl rfl rfl rfl (by kernel_rfl) (by kernel_rfl) ?_
              | refine Ev_move rfl ?_
              | refine Ev_assign rfl ?_
              | refine Ev_extract rfl rfl ?_
              | refine Ev_pick_f rfl rfl rfl ?_
              | refine Ev_sneq rfl rfl ?_
              | refine Ev_notb rfl ?_)
          refine V_done rfl rfl ⟨⟨by omega, by omega, hF.ok, hF.same⟩, w, ?_, ?_, hbw⟩
          · unfold methR; rw [e]; rfl
          · unfold methR; rw [e]; exact how.eq rfl hl.symm
        · repeat' (
            first
              | refine W_seq ?_
              | refine WO_nil ?_
              | refine V_seq ?_
              | refine W_region ?_
              | refine W_skip ?_
              | refine W_ret ?_
              | refine W_cond_f rfl ?_
              | refine WO_dst rfl rfl (by kernel_rfl) (by kernel_rfl) ?_
              | refine WO_guard_t rfl rfl rfl rfl rfl (by kernel_rfl) (by kernel_rfl) ?_
              | refine WO_guard_f rfl rfl rfl rfl rfl rfl (by kernel_rfl) (by kernel_rfl) ?_
              | refine Ev_move rfl ?_
              | refine Ev_assign rfl ?_
              | refine Ev_extract rfl rfl ?_
              | refine Ev_pick_f rfl rfl rfl ?_
              | refine Ev_sneq rfl rfl ?_
              | refine Ev_notb rfl ?_
              | (refine WO_guard_dt rfl rfl rfl rfl rfl (by kernel_rfl) (by kernel_rfl) (fun hg => ?_) (fun hg => ?_) <;> (try dsimp only at hg) <;> try (exfalso; first | omega | exact hg rfl)))
          rotate_left
          · exact absurd (Classical.not_not.1 hg) hv
          refine Ev_call rfl rfl ((field_runs (by omega)).mono ?_)
          rintro _ _ - ⟨rfl, rfl⟩
          rename_i T
          by_cases hp : fieldP res
          · have e : methS s = some ((fieldsM i (s.drop 1)).1, res) := by
              unfold methS; rw [he]; dsimp only
              rw [← hres, if_pos ⟨hb, hb2, .inr hp⟩]
            rw [decide_eq_true hp]
            repeat' (
              first
                | refine W_seq ?_
                | refine WO_nil ?_
                | refine V_seq ?_
                | refine W_region ?_
                | refine W_skip ?_
                | refine W_ret ?_
                | refine W_cond_f rfl ?_
                | refine WO_dst rfl rfl (by kernel_rfl) (by kernel_rfl) ?_
                | refine WO_guard_t rfl rfl rfl rfl rfl (by kernel_rfl) (by kernel_rfl) ?_
                | refine Ev_move rfl ?_
                | refine Ev_assign rfl ?_
                | refine Ev_pick_t rfl rfl rfl ?_
                | refine Ev_pick_f rfl rfl rfl ?_
                | refine Ev_notb rfl ?_)
            refine V_done rfl rfl ⟨⟨by omega, by omega, hF.ok, hF.same⟩, w, ?_, ?_, hbw⟩
            · unfold methR; rw [e]; rfl
            · unfold methR; rw [e]; exact how.eq rfl hl.symm
          · have e : methS s = none := by
              unfold methS; rw [he]; dsimp only
              rw [← hres, if_neg (fun h => by rcases h.2.2 with h | h; exact hv h; exact hp h)]
            rw [decide_eq_false hp]
            repeat' (
              first
                | refine W_seq ?_
                | refine WO_nil ?_
                | refine V_seq ?_
                | refine W_region ?_
                | refine W_ret ?_
                | refine V_ret ?_
                | refine W_cond_t rfl ?_
                | refine WO_dst rfl rfl (by kernel_rfl) (by kernel_rfl) ?_
                | refine WO_guard_t rfl rfl rfl rfl rfl (by kernel_rfl) (by kernel_rfl) ?_
                | refine Ev_assign rfl ?_
                | refine Ev_pick_t rfl rfl rfl ?_
                | refine Ev_pick_f rfl rfl rfl ?_
                | refine Ev_notb rfl ?_)
            refine V_done rfl rfl ⟨⟨by omega, by omega, hF.ok, hF.same⟩, .nils, ?_, ?_, fun c hc => by cases hc⟩
            · unfold methR; rw [e]; rfl
            · unfold methR; rw [e]; exact .inl ⟨rfl, rfl, rfl⟩
      · rw [decide_eq_false (show ¬ q.take [41].length = [41] from hb2)]
        have e : methS s = none := by
          unfold methS; rw [he]; dsimp only
          rw [if_neg (fun h => hb2 h.2.1)]
        repeat' (
          first
            | refine W_seq ?_
            | refine WO_nil ?_
            | refine V_seq ?_
            | refine W_region ?_
            | refine W_ret ?_
            | refine V_ret ?_
            | refine W_cond_t rfl ?_
            | refine WO_dst rfl rfl (by kernel_rfl) (by kernel_rfl) ?_
            | refine WO_guard_f rfl rfl rfl rfl rfl rfl (by kernel_rfl) (by kernel_rfl) ?_
            | refine WO_guard_x rfl rfl rfl rfl rfl (by kernel_rfl) (by kernel_rfl) ?_
            | refine Ev_move rfl ?_
            | refine Ev_assign rfl ?_
            | refine Ev_extract rfl rfl ?_
            | refine Ev_pick_t rfl rfl rfl ?_
            | refine Ev_notb rfl ?_)
        refine V_done rfl rfl ⟨⟨by omega, by omega, hF.ok, hF.same⟩, .nils, ?_, ?_, fun c hc => by cases hc⟩
        · unfold methR; rw [e]; rfl
        · unfold methR; rw [e]; exact .inl ⟨rfl, rfl, rfl⟩
  · rw [decide_eq_false (show ¬ s.take [40].length = [40] from hb)]
    repeat' (
      first
        | refine W_seq ?_
        | refine WO_nil ?_
        | refine V_seq ?_
        | refine W_region ?_
        | refine W_ret ?_
        | refine V_ret ?_
        | refine W_cond_t rfl ?_
        | refine WO_dst rfl rfl (by kernel_rfl) (by kernel_rfl) ?_
        | refine Ev_move rfl ?_
        | refine Ev_assign rfl ?_
        | refine Ev_extract rfl rfl ?_
        | refine Ev_notb rfl ?_)
    have e : methS s = none := by unfold methS; rw [if_neg (fun h => hb h.1)]
    refine V_done rfl rfl ⟨⟨Nat.le_refl _, by omega, hok, fun _ _ _ => rfl⟩, .nils, ?_, ?_, fun c hc => by cases hc⟩
    · unfold methR; rw [e]; rfl
    · unfold methR; rw [e]; exact .inl ⟨rfl, rfl, rfl⟩
theorem str_lh {X : X} {t : Nat} {k k' : IntKind} {s : List Nat} {lo hi : Nat} (h : lo ≤ hi) (h2 : hi ≤ s.length) : aslice X t (.str s) (some (.int k ((lo : Nat) : Int))) (some (.int k' ((hi : Nat) : Int))) none = some (.str ((s.take hi).drop lo)) := by
  unfold aslice bounds
  have e1 : bound (.int k' ((hi : Nat) : Int)) s.length = some hi := by
    show (bif Nat.ble hi s.length then some hi else none) = _
    rw [nble, decide_eq_true h2]; rfl
  have e2 : bound (.int k ((lo : Nat) : Int)) hi = some lo := by
    show (bif Nat.ble lo hi then some lo else none) = _
    rw [nble, decide_eq_true h]; rfl
  dsimp only; rw [e1]; dsimp only; rw [e2]
theorem semi_at {r : List Nat} {k : Nat} (hk : k < r.length) (h : r.getD k 0 = 59) (hn : ∀ c ∈ r.take k, c ≠ 59) : semi r = some k := by
  have e : r = r.take k ++ 59 :: r.drop (k + 1) := by
    conv => lhs; rw [← List.take_append_drop k r]
    rw [List.drop_eq_getElem_cons hk]
    have : r[k] = 59 := by rw [List.getD_eq_getElem?_getD, List.getElem?_eq_getElem hk] at h; exact h
    rw [this]
  conv => lhs; rw [e]
  rw [semi_app hn, List.length_take, Nat.min_eq_left (by omega)]
theorem semi_none : ∀ {r : List Nat}, (∀ c ∈ r, c ≠ 59) → semi r = none
  | [], _ => rfl
  | c :: r, h => by
    rw [semi_ne (h c (List.mem_cons_self ..)), semi_none (fun d hd => h d (List.mem_cons_of_mem _ hd))]; rfl
theorem rone1_runs {S : St} {s : List Nat} (hs : s.length < 1000000000) (hb : ¬ s.take 1 = [91]) : Runs X1 32 [.str s] S fun v S' => S' = S ∧ v = .int .i64 ((base1 s : Nat) : Int) := by
  cases s with
  | nil =>
    refine Runs_fn (m := 46) (by kernel_rfl) Try.func32 rfl (by kernel_rfl) (by kernel_rfl) ?_
    repeat' (
      first
        | refine W_seq ?_
        | refine WO_nil ?_
        | refine V_seq ?_
        | refine W_region ?_
        | refine W_ret ?_
        | refine V_ret ?_
        | refine W_cond_t rfl ?_
        | refine WO_dst rfl rfl (by kernel_rfl) (by kernel_rfl) ?_
        | refine Ev_move rfl ?_
        | refine Ev_assign rfl ?_
        | refine Ev_seql rfl rfl ?_)
    · refine V_done rfl rfl ?_
      exact ⟨rfl, rfl⟩
  | cons c r =>
    have hc91 : c ≠ 91 := fun h => hb (by rw [h]; rfl)
    have h0 : (c :: r)[0]? = some c := rfl
    refine Runs_fn (m := 46) (by kernel_rfl) Try.func32 rfl (by kernel_rfl) (by kernel_rfl) ?_
    repeat' (
      first
        | refine W_seq ?_
        | refine WO_nil ?_
        | refine V_seq ?_
        | refine W_region ?_
        | refine W_block ?_
        | refine W_skip ?_
        | refine W_ret ?_
        | refine V_ret ?_
        | refine V_block ?_
        | refine W_cond_f rfl ?_
        | refine WO_dst rfl rfl (by kernel_rfl) (by kernel_rfl) ?_
        | refine Ev_index rfl rfl rfl rfl h0 ?_
        | refine Ev_move rfl ?_
        | refine Ev_assign rfl ?_
        | refine Ev_eqlN rfl rfl ?_
        | refine Ev_seql rfl rfl ?_
        | (refine W_cond rfl (fun hc => ?_) (fun hc => ?_) <;> (try dsimp only at hc) <;> try (exfalso; first | omega | exact hc rfl)))
    · refine V_done rfl rfl ⟨rfl, ?_⟩
      rw [base1_cons, if_pos hc]; rfl
    · subst hc
      refine W_inv (fun i : Nat => [(4, .int .i64 ((i : Nat) : Int)), (0, .str (76 :: r)), (2, .int .i64 0)]) (fun i T => T = S ∧ 1 ≤ i ∧ i ≤ r.length + 1 ∧ ∀ d ∈ r.take (i - 1), d ≠ 59) (fun i => r.length + 1 - i) ?_ 1 ⟨rfl, by omega, by omega, by simp⟩ ⟨rfl, rfl, rfl, trivial⟩
      rintro i T ⟨rfl, hi1, hi2, hno⟩ back
      have hgi : ∀ h : i < (76 :: r).length, (76 :: r)[i]? = some (r.getD (i - 1) 0) := fun h => by
        obtain ⟨j, rfl⟩ : ∃ j, i = j + 1 := ⟨i - 1, by omega⟩
        rw [List.getElem?_cons_succ, get_some (by simpa using h)]; rfl
      repeat' (
        first
          | refine W_seq ?_
          | refine WO_nil ?_
          | refine V_seq ?_
          | refine W_region ?_
          | refine W_block ?_
          | refine W_skip ?_
          | refine W_ret ?_
          | refine W_exit ?_
          | refine V_block ?_
          | refine V_block_x rfl ?_
          | refine V_seq_x ?_
          | refine V_loop_x ?_
          | refine WO_dst rfl rfl (by kernel_rfl) (by kernel_rfl) ?_
          | refine Ev_index rfl rfl rfl rfl (hgi (by assumption)) ?_
          | refine Ev_slice_str (lo' := some (.int .i64 ((1 : Nat) : Int))) (hi' := some (.int .i64 ((i : Nat) : Int))) (mx' := none) rfl rfl rfl rfl rfl rfl (str_lh (by omega) (by first | omega | (simp; omega))) ?_
          | refine Ev_move rfl ?_
          | refine Ev_assign rfl ?_
          | refine Ev_lssN rfl rfl ?_
          | refine Ev_eqlN rfl rfl ?_
          | refine Ev_len_str rfl rfl rfl rfl rfl ?_
          | refine Ev_addN rfl rfl (by simp only [lim]; omega) ?_
          | (refine W_cond rfl (fun hc => ?_) (fun hc => ?_) <;> (try dsimp only at hc) <;> try (exfalso; first | omega | exact hc rfl)))
      · rename_i hlt
        have hse := semi_at (r := r) (k := i - 1) (by simp at hlt; omega) hc hno
        have e1 : ((76 :: r).take i).drop 1 = r.take (i - 1) := by
          obtain ⟨j, rfl⟩ : ∃ j, i = j + 1 := ⟨i - 1, by omega⟩
          simp
        rw [e1]
        refine Ev_call rfl rfl ((rname_runs (by rw [List.length_take]; simp at hs; omega)).mono ?_)
        rintro _ _ - ⟨rfl, rfl⟩
        repeat' (
          first
            | refine W_seq ?_
            | refine WO_nil ?_
            | refine V_seq ?_
            | refine W_region ?_
            | refine W_skip ?_
            | refine W_ret ?_
            | refine V_ret ?_
            | refine WO_dst rfl rfl (by kernel_rfl) (by kernel_rfl) ?_
            | refine Ev_move rfl ?_
            | refine Ev_assign rfl ?_
            | refine Ev_addN rfl rfl (by simp only [lim]; omega) ?_
            | (refine W_cond rfl (fun hc => ?_) (fun hc => ?_) <;> (try dsimp only at hc) <;> try (exfalso; first | omega | exact hc rfl)))
        · refine V_done rfl rfl ⟨rfl, ?_⟩
          rename_i hnm
          show AV.int .i64 ((i + 1 : Nat) : Int) = _
          rw [base1_76, hse]; dsimp only; rw [if_pos (by assumption)]; congr 2; omega
        · refine V_done rfl rfl ⟨rfl, ?_⟩
          rw [base1_76, hse]; dsimp only; rw [if_neg (by assumption)]; rfl
      · rename_i hlt
        refine back (i + 1) _ _ (by simp at hlt; omega) ⟨rfl, by omega, by simp at hlt; omega, fun d hd => ?_⟩ ⟨rfl, rfl, rfl, trivial⟩
        have hlt2 : i - 1 < r.length := by simp at hlt; omega
        rw [show i + 1 - 1 = (i - 1) + 1 by omega, List.take_succ_eq_append_getElem hlt2] at hd
        rcases List.mem_append.1 hd with h | h
        · exact hno d h
        · rw [List.mem_singleton] at h
          rw [List.getD_eq_getElem?_getD, List.getElem?_eq_getElem hlt2] at hc
          rw [h]; exact hc
      · have hall : ∀ d ∈ r, d ≠ 59 := by
          have : r.take (i - 1) = r := List.take_of_length_le (by simp at hc; omega)
          rw [this] at hno; exact hno
        refine V_done rfl rfl ⟨rfl, ?_⟩
        rw [base1_76, semi_none hall]; rfl
    · refine V_done rfl rfl ⟨rfl, ?_⟩
      rw [base1_cons, if_neg (by assumption), if_neg hc]; rfl
theorem rone_runs {S : St} {s : List Nat} (hs : s.length < 1000000000) : Runs X1 32 [.str s] S fun v S' => S' = S ∧ v = .int .i64 ((oneS s : Nat) : Int) := by
  by_cases hb : s.take 1 = [91]
  · cases s with
    | nil => simp at hb
    | cons c r =>
      have hc91 : c = 91 := by simpa using hb
      subst hc91
      have h0 : (91 :: r)[0]? = some 91 := rfl
      have h1 : 1 < (91 :: r).length → (91 :: r)[1]? = some (r.getD 0 0) := fun h => by
        rw [List.getElem?_cons_succ, get_some (by simpa using h)]
      rw [oneS_cons, if_pos rfl]
      refine Runs_fn (m := 46) (by kernel_rfl) Try.func32 rfl (by kernel_rfl) (by kernel_rfl) ?_
      repeat' (
        first
          | refine W_seq ?_
          | refine WO_nil ?_
          | refine V_seq ?_
          | refine W_region ?_
          | refine W_block ?_
          | refine W_skip ?_
          | refine W_ret ?_
          | refine V_block ?_
          | refine W_cond_t rfl ?_
          | refine W_cond_f rfl ?_
          | refine WO_dst rfl rfl (by kernel_rfl) (by kernel_rfl) ?_
          | refine WO_guard_t rfl rfl rfl rfl rfl (by kernel_rfl) (by kernel_rfl) ?_
          | refine WO_guard_f rfl rfl rfl rfl rfl rfl (by kernel_rfl) (by kernel_rfl) ?_
          | refine Ev_index rfl rfl rfl rfl h0 ?_
          | refine Ev_index rfl rfl rfl rfl (h1 (by assumption)) ?_
          | refine Ev_slice_str (lo' := some (.int .i64 ((1 : Nat) : Int))) (hi' := none) (mx' := none) rfl rfl rfl rfl rfl rfl (str_lo (by omega)) ?_
          | refine Ev_move rfl ?_
          | refine Ev_assign rfl ?_
          | refine Ev_pick_t rfl rfl rfl ?_
          | refine Ev_pick_f rfl rfl rfl ?_
          | refine Ev_gtrN rfl rfl ?_
          | refine Ev_eqlN rfl rfl ?_
          | refine Ev_neqN rfl rfl ?_
          | refine Ev_seql rfl rfl ?_
          | refine Ev_len_str rfl rfl rfl rfl rfl ?_
          | (refine WO_guard_dt rfl rfl rfl rfl rfl (by kernel_rfl) (by kernel_rfl) (fun hg => ?_) (fun hg => ?_) <;> (try dsimp only at hg) <;> try (exfalso; first | omega | exact hg rfl))
          | (refine W_cond rfl (fun hc => ?_) (fun hc => ?_) <;> (try dsimp only at hc) <;> try (exfalso; first | omega | exact hc rfl)))
      · have hr : ¬ r.take 1 = [91] := by
          intro h
          cases r with
          | nil => simp at h
          | cons d r => exact hc (by simpa using h)
        have hdr : (91 :: r).drop 1 = r := rfl
        rw [hdr]
        refine Ev_call rfl rfl ((rone1_runs (by simp at hs; omega) hr).mono ?_)
        rintro _ _ - ⟨rfl, rfl⟩
        have hbl := base1_le r
        simp only [List.length_cons] at hs
        repeat' (
          first
            | refine W_seq ?_
            | refine WO_nil ?_
            | refine V_seq ?_
            | refine W_region ?_
            | refine W_skip ?_
            | refine W_ret ?_
            | refine V_ret ?_
            | refine V_block ?_
            | refine WO_dst rfl rfl (by kernel_rfl) (by kernel_rfl) ?_
            | refine Ev_move rfl ?_
            | refine Ev_assign rfl ?_
            | refine Ev_gtrN rfl rfl ?_
            | refine Ev_addN rfl rfl (by simp only [lim]; omega) ?_
            | (refine W_cond rfl (fun hc => ?_) (fun hc => ?_) <;> (try dsimp only at hc) <;> try (exfalso; first | omega | exact hc rfl)))
        · refine V_done rfl rfl ⟨rfl, ?_⟩
          rw [if_neg (by omega)]; rfl
        · refine V_done rfl rfl ⟨rfl, ?_⟩
          rw [if_pos (by omega)]; rfl
      · refine V_done rfl rfl ⟨rfl, ?_⟩
        have hr : base1 r = 0 := by
          cases r with
          | nil => rfl
          | cons d r =>
            have : d = 91 := Classical.not_not.1 hc
            subst this; rfl
        rw [if_pos hr]; rfl
      · refine V_done rfl rfl ⟨rfl, ?_⟩
        have hr : r = [] := List.eq_nil_of_length_eq_zero (by simp only [List.length_cons] at hg; omega)
        subst hr; rfl
  · have e : oneS s = base1 s := by
      cases s with
      | nil => rfl
      | cons c r => rw [oneS_cons, if_neg (fun h => hb (by rw [h]; rfl))]
    rw [e]; exact rone1_runs hs hb
theorem rfield_runs {S : St} {s : List Nat} (hs : s.length < 1000000000) : Runs X1 20 [.str s] S fun v S' => S' = S ∧ v = .bool (decide (fieldP s)) := by
  refine Runs_fn (m := 12) (by kernel_rfl) Try.func20 rfl (by kernel_rfl) (by kernel_rfl) ?_
  repeat' (
    first
      | refine W_seq ?_
      | refine WO_nil ?_
      | refine V_seq ?_
      | refine W_region ?_
      | refine W_ret ?_
      | refine WO_dst rfl rfl (by kernel_rfl) (by kernel_rfl) ?_
      | refine WO_guard_t rfl rfl rfl rfl rfl (by kernel_rfl) (by kernel_rfl) ?_
      | refine WO_guard_f rfl rfl rfl rfl rfl rfl (by kernel_rfl) (by kernel_rfl) ?_
      | refine Ev_move rfl ?_
      | refine Ev_assign rfl ?_
      | refine Ev_pick_f rfl rfl rfl ?_
      | refine Ev_sneq rfl rfl ?_
      | (refine WO_guard_dt rfl rfl rfl rfl rfl (by kernel_rfl) (by kernel_rfl) (fun hg => ?_) (fun hg => ?_) <;> (try dsimp only at hg) <;> try (exfalso; first | omega | exact hg rfl)))
  · refine Ev_call rfl rfl ((rone_runs hs).mono ?_)
    rintro _ _ - ⟨rfl, rfl⟩
    repeat' (
      first
        | refine WO_nil ?_
        | refine V_seq ?_
        | refine W_ret ?_
        | refine WO_dst rfl rfl (by kernel_rfl) (by kernel_rfl) ?_
        | refine WO_guard_t rfl rfl rfl rfl rfl (by kernel_rfl) (by kernel_rfl) ?_
        | refine Ev_move rfl ?_
        | refine Ev_assign rfl ?_
        | refine Ev_pick_t rfl rfl rfl ?_
        | refine Ev_eqlN rfl rfl ?_
        | refine Ev_len_str rfl rfl rfl rfl rfl ?_)
    refine V_done rfl rfl ⟨rfl, ?_⟩
    show AV.bool (decide (oneS s = s.length)) = _
    congr 1
    exact decide_eq_decide.2 ⟨fun h => ⟨hg, h⟩, fun h => h.2⟩
  · refine V_done rfl rfl ⟨rfl, ?_⟩
    rw [decide_eq_false (fun h => hg h.1)]; rfl
theorem one_ne {x : List Nat} (h : oneS x ≠ 0) : x ≠ [] ∧ ¬ x.take 1 = [41] := by
  cases x with
  | nil => exact absurd rfl h
  | cons c r =>
    refine ⟨by simp, fun h2 => h ?_⟩
    have : c = 41 := by simpa using h2
    subst this; rfl
theorem fields_8 {r q : List Nat} {n : Nat} (hq : q = (fieldsM n r).2) (h8 : n ≤ 8) (h0 : oneS q = 0) : fieldsM 8 r = ((fieldsM n r).1, q) := by
  have := fieldsM_add n (8 - n) r
  rw [show n + (8 - n) = 8 by omega, ← hq, fieldsM_stop h0] at this
  rw [this]; simp
theorem fields_9 {r : List Nat} {n : Nat} (h8 : 8 < n) (hl : (fieldsM n r).1.length = n) : ¬ (fieldsM 8 r).2.take 1 = [41] := by
  refine (one_ne (fun h0 => ?_)).2
  have := fieldsM_add 8 (n - 8) r
  rw [show 8 + (n - 8) = n by omega, fieldsM_stop h0] at this
  rw [this] at hl
  have h3 := (fieldsM_len 8 r).1
  simp at hl; omega
theorem meth_bad {s r q : List Nat} {n : Nat} (hr : r = s.drop 1) (hq : q = (fieldsM n r).2) (hl : (fieldsM n r).1.length = n) (h0 : oneS q = 0) (h1 : ¬ q.take 1 = [41] ∨ 8 < n ∨ ¬ (q.drop 1 = [86] ∨ fieldP (q.drop 1))) : methS s = none := by
  unfold methS
  rw [← hr]
  by_cases h8 : n ≤ 8
  · rw [fields_8 hq h8 h0]
    rw [if_neg]
    rintro ⟨_, g1, g2⟩
    rcases h1 with h1 | h1 | h1
    · exact h1 g1
    · omega
    · exact h1 g2
  · rw [if_neg]
    rintro ⟨_, g1, _⟩
    exact fields_9 (by omega) hl g1
theorem rmethod_runs {S : St} {s : List Nat} (hok : Sok S) (hs : s.length < 100000000) (hn : S.n + 2 * s.length + 20 ≤ 1000000000) : Runs X1 16 [.str s] S (MethO S s (2 * s.length)) := by
  have hnone : methS s = none → (methR s).1 = [] ∧ (methR s).2 = [] ∧ decide ((methS s).isSome = true) = false := by
    intro h; unfold methR; rw [h]; exact ⟨rfl, rfl, rfl⟩
  have bad : ∀ T, Fr S T .nils (2 * s.length) → methS s = none → MethO S s (2 * s.length) (.tup [.nils, .str [], .bool false]) T := by
    intro T hF h
    obtain ⟨e1, e2, e3⟩ := hnone h
    refine ⟨hF, .nils, by rw [e2, e3], by rw [e1]; exact .inl ⟨rfl, rfl, rfl⟩, fun c hc => by cases hc⟩
  have h00 : ∀ h : s ≠ [], s[0]? = some (s.getD 0 0) := fun h => get_some (List.length_pos_iff.2 h)
  have ht40 : s.take 1 = [40] ↔ s ≠ [] ∧ s.getD 0 0 = 40 := by cases s <;> simp
  refine Runs_fn (m := 57) (by kernel_rfl) Try.func16 rfl (by kernel_rfl) (by kernel_rfl) ?_
  repeat' (
    first
      | refine W_seq ?_
      | refine WO_nil ?_
      | refine V_seq ?_
      | refine W_region ?_
      | refine W_block ?_
      | refine W_skip ?_
      | refine W_ret ?_
      | refine V_ret ?_
      | refine W_cond_t rfl ?_
      | refine WO_dst rfl rfl (by kernel_rfl) (by kernel_rfl) ?_
      | refine WO_guard_t rfl rfl rfl rfl rfl (by kernel_rfl) (by kernel_rfl) ?_
      | refine WO_guard_f rfl rfl rfl rfl rfl rfl (by kernel_rfl) (by kernel_rfl) ?_
      | refine Ev_index rfl rfl rfl rfl (h00 (by assumption)) ?_
      | refine Ev_slice_str (lo' := some (.int .i64 ((1 : Nat) : Int))) (hi' := none) (mx' := none) rfl rfl rfl rfl rfl rfl (str_lo (by have := List.length_pos_iff.2 (show s ≠ [] by assumption); omega)) ?_
      | refine Ev_move rfl ?_
      | refine Ev_assign rfl ?_
      | refine Ev_pick_t rfl rfl rfl ?_
      | refine Ev_pick_f rfl rfl rfl ?_
      | refine Ev_neqN rfl rfl ?_
      | refine Ev_seql rfl rfl ?_
      | (refine WO_guard_df rfl rfl rfl rfl rfl (by kernel_rfl) (by kernel_rfl) (fun hg => ?_) (fun hg => ?_) <;> (try dsimp only at hg) <;> try (exfalso; first | omega | exact hg rfl))
      | (refine W_cond rfl (fun hc => ?_) (fun hc => ?_) <;> (try dsimp only at hc) <;> try (exfalso; first | omega | exact hc rfl)))
  · refine V_done rfl rfl (bad _ ⟨Nat.le_refl _, by omega, hok, fun _ _ _ => rfl⟩ ?_)
    unfold methS; rw [if_neg (fun h => hc (ht40.1 h.1).2)]
  · have hs1 : s.take 1 = [40] := ht40.2 ⟨hg, Classical.not_not.1 hc⟩
    obtain ⟨r, hr⟩ : ∃ r, r = s.drop 1 := ⟨_, rfl⟩
    rw [← hr]
    have hrl : r.length + 1 = s.length := by
      have := List.length_pos_iff.2 (show s ≠ [] from hg)
      rw [hr, List.length_drop]; omega
    refine W_inv (fun a : Nat × AV => [(0, .str (fieldsM a.1 r).2), (5, a.2), (2, .nils), (3, .str []), (4, .bool false)]) (fun a T => Fr S T .nils (2 * a.1) ∧ (fieldsM a.1 r).1.length = a.1 ∧ a.1 + (fieldsM a.1 r).2.length ≤ r.length ∧ Own T a.2 9 1 ((fieldsM a.1 r).1.map .str) a.1 ∧ ∀ c, blkOf a.2 = some c → S.n ≤ c) (fun a => r.length - a.1) ?_ (0, .nils) ⟨⟨Nat.le_refl _, Nat.le_refl _, hok, fun _ _ _ => rfl⟩, rfl, by simp [fieldsM], .inl ⟨rfl, rfl, rfl⟩, fun c hc => by cases hc⟩ ⟨rfl, rfl, rfl, rfl, rfl, trivial⟩
    rintro ⟨i, w⟩ T ⟨hF, hl, hi, how, hbw⟩ back
    dsimp only at hF hl hi how hbw back
    obtain ⟨q, hqe⟩ : ∃ q, q = (fieldsM i r).2 := ⟨_, rfl⟩
    have hnx := fieldsM_next (n := i) (s := r)
    rw [← hqe] at hi hnx
    dsimp only
    rw [← hqe]
    have gn := hF.n
    have gl := hF.le
    have hle := oneS_le q
    have hq0 : ∀ h : q ≠ [], q[0]? = some (q.getD 0 0) := fun h => get_some (List.length_pos_iff.2 h)
    have hq41 : q.take 1 = [41] ↔ q ≠ [] ∧ q.getD 0 0 = 41 := by cases q <;> simp
    repeat' (
      first
        | refine W_seq ?_
        | refine WO_nil ?_
        | refine V_seq ?_
        | refine W_region ?_
        | refine W_block ?_
        | refine W_skip ?_
        | refine W_ret ?_
        | refine W_exit ?_
        | refine V_ret ?_
        | refine V_block_x rfl ?_
        | refine V_seq_x ?_
        | refine V_loop_x ?_
        | refine W_cond_t rfl ?_
        | refine W_cond_f rfl ?_
        | refine WO_dst rfl rfl (by kernel_rfl) (by kernel_rfl) ?_
        | refine WO_guard_t rfl rfl rfl rfl rfl (by kernel_rfl) (by kernel_rfl) ?_
        | refine WO_guard_f rfl rfl rfl rfl rfl rfl (by kernel_rfl) (by kernel_rfl) ?_
        | refine WO_guard_x rfl rfl rfl rfl rfl (by kernel_rfl) (by kernel_rfl) ?_
        | refine Ev_index rfl rfl rfl rfl (hq0 (by assumption)) ?_
        | refine Ev_move rfl ?_
        | refine Ev_assign rfl ?_
        | refine Ev_pick_t rfl rfl rfl ?_
        | refine Ev_pick_f rfl rfl rfl ?_
        | refine Ev_neqN rfl rfl ?_
        | refine Ev_seql rfl rfl ?_
        | refine Ev_sneq rfl rfl ?_
        | (refine WO_guard_dt rfl rfl rfl rfl rfl (by kernel_rfl) (by kernel_rfl) (fun hg => ?_) (fun hg => ?_) <;> (try dsimp only at hg) <;> try (exfalso; first | omega | exact hg rfl))
        | (refine WO_guard_df rfl rfl rfl rfl rfl (by kernel_rfl) (by kernel_rfl) (fun hg => ?_) (fun hg => ?_) <;> (try dsimp only at hg) <;> try (exfalso; first | omega | exact hg rfl))
        | (refine W_cond rfl (fun hc => ?_) (fun hc => ?_) <;> (try dsimp only at hc) <;> try (exfalso; first | omega | exact hc rfl)))
    · have hq1 : ¬ q.take 1 = [41] := fun h => hc (hq41.1 h).2
      refine Ev_call rfl rfl ((rone_runs (by omega)).mono ?_)
      rintro _ _ - ⟨rfl, rfl⟩
      rename_i T
      repeat' (
        first
          | refine W_seq ?_
          | refine WO_nil ?_
          | refine V_seq ?_
          | refine W_region ?_
          | refine W_skip ?_
          | refine W_ret ?_
          | refine V_ret ?_
          | refine WO_dst rfl rfl (by kernel_rfl) (by kernel_rfl) ?_
          | refine Ev_slice_str (lo' := none) (hi' := some (.int .i64 ((oneS q : Nat) : Int))) (mx' := none) rfl rfl rfl rfl rfl rfl (str_hi (by omega)) ?_
          | refine Ev_move rfl ?_
          | refine Ev_assign rfl ?_
          | refine Ev_eqlN rfl rfl ?_
          | (refine W_cond rfl (fun hc => ?_) (fun hc => ?_) <;> (try dsimp only at hc) <;> try (exfalso; first | omega | exact hc rfl)))
      · rename_i h0
        refine V_done rfl rfl (bad _ ⟨by omega, by omega, hF.ok, hF.same⟩ (meth_bad hr hqe hl hc (.inl hq1)))
      · refine Ev_buildSlice rfl rfl rfl rfl rfl rfl hF.ok (by omega) ?_
        intro T1 n1 ok1 q1 f1
        have how1 := how.keep (fun c hc => f1 c (how.lt hF.ok hc))
        repeat (
          refine WO_dst rfl rfl (by kernel_rfl) (by kernel_rfl) ?_)
        refine Ev_append rfl rfl rfl rfl rfl rfl rfl rfl rfl rfl how1 (strs_rd q1) (by simp [AV.one]) ok1 (by omega) (by dsimp only; omega) (by omega) ?_
        intro w2 T2 gl2 gn2 gok2 how2 gf2 gb2
        rw [if_neg hc] at hnx
        repeat (
          first
            | refine WO_nil ?_
            | refine V_seq ?_
            | refine W_region ?_
            | refine V_block ?_
            | refine WO_dst rfl rfl (by kernel_rfl) (by kernel_rfl) ?_
            | refine Ev_slice_str (lo' := some (.int .i64 ((oneS q : Nat) : Int))) (hi' := none) (mx' := none) rfl rfl rfl rfl rfl rfl (str_lo (by omega)) ?_
            | refine Ev_move rfl ?_
            | refine Ev_assign rfl ?_)
        refine back (i + 1, w2) T2 _ (by dsimp only; omega) ⟨⟨by omega, by dsimp only; omega, gok2, fun c _ h => ?_⟩, ?_, ?_, ?_, fun c hc => ?_⟩ ⟨?_, rfl, rfl, rfl, rfl, trivial⟩
        · rw [gf2 c (fun e => by have := hbw c e; omega) (by omega), f1 c (by omega), hF.same c (by simp [blkOf]) h]
        · dsimp only; rw [hnx, List.length_append, hl]; rfl
        · dsimp only; rw [hnx, List.length_drop]; omega
        · dsimp only; rw [hnx]; exact how2.eq (by simp) rfl
        · rcases gb2 c hc with h | h
          · exact hbw c h
          · omega
        · show some (AV.str _) = some (AV.str (fieldsM (i + 1) r).2)
          rw [hnx]
    · have h41 : q.take 1 = [41] := hq41.2 ⟨hg, Classical.not_not.1 hc⟩
      have h0 : oneS q = 0 := Classical.byContradiction fun h => (one_ne h).2 h41
      have hql : 1 ≤ q.length := List.length_pos_iff.2 hg
      by_cases h8 : i ≤ 8
      · have he := fields_8 hqe h8 h0
        obtain ⟨res, hres⟩ : ∃ res, res = q.drop 1 := ⟨_, rfl⟩
        have hrl2 : res.length < q.length := by rw [hres, List.length_drop]; omega
        repeat' (
          first
            | refine WO_dst rfl rfl (by kernel_rfl) (by kernel_rfl) ?_
            | refine WO_guard_t rfl rfl rfl rfl rfl (by kernel_rfl) (by kernel_rfl) ?_
            | refine Ev_len rfl rfl rfl rfl rfl how.rd.len ?_
            | refine Ev_move rfl ?_
            | refine Ev_pick_f rfl rfl rfl ?_
            | refine Ev_gtrN rfl rfl ?_
            | (refine WO_guard_df rfl rfl rfl rfl rfl (by kernel_rfl) (by kernel_rfl) (fun hg => ?_) (fun hg => ?_) <;> (try dsimp only at hg) <;> try (exfalso; first | omega | exact hg rfl)))
        refine Ev_slice_str (lo' := some (.int .i64 ((1 : Nat) : Int))) (hi' := none) (mx' := none) rfl rfl rfl rfl rfl rfl (str_lo hql) ?_
        rw [← hres]
        have good : ((res = [86]) ∨ fieldP res) → methS s = some ((fieldsM i r).1, res) := by
          intro h
          unfold methS; rw [← hr, he]; dsimp only
          rw [← hres, if_pos ⟨hs1, h41, h⟩]
        by_cases hv : res = [86]
        · have e := good (.inl hv)
          subst hv
          repeat' (
            first
              | refine W_seq ?_
              | refine WO_nil ?_
              | refine V_seq ?_
              | refine W_drawn (by kernel_rfl) ?_
              | refine W_skip ?_
              | refine W_cond_f rfl ?_
              | refine WO_dst rfl rfl (by kernel_rfl) (by kernel_rfl) ?_
              | refine WO_guard_t rfl rfl rfl rfl rfl (by kernel_rfl) (by kernel_rfl) ?_
              | refine WO_guard_f rfl rfl rfl rfl rfl rfl (by kernel_rfl) (by kernel_rfl) ?_
              | refine Ev_move rfl ?_
              | refine Ev_pick_f rfl rfl rfl ?_
              | refine Ev_sneq rfl rfl ?_)
          refine Ev_slice_str (lo' := some (.int .i64 ((1 : Nat) : Int))) (hi' := none) (mx' := none) rfl rfl rfl rfl rfl rfl (str_lo hql) ?_
          rw [← hres]
          repeat' (
            first
              | refine WO_nil ?_
              | refine V_seq ?_
              | refine W_ret ?_
              | refine WO_dst rfl rfl (by kernel_rfl) (by kernel_rfl) ?_
              | refine Ev_assign rfl ?_)
          refine V_done rfl rfl ⟨⟨by omega, by omega, hF.ok, hF.same⟩, w, ?_, ?_, hbw⟩
          · unfold methR; rw [e]; rfl
          · unfold methR; rw [e]; exact how.eq rfl hl.symm
        · repeat' (
            first
              | refine W_seq ?_
              | refine WO_nil ?_
              | refine V_seq ?_
              | refine W_drawn (by kernel_rfl) ?_
              | refine W_skip ?_
              | refine W_cond_f rfl ?_
              | refine WO_dst rfl rfl (by kernel_rfl) (by kernel_rfl) ?_
              | refine WO_guard_t rfl rfl rfl rfl rfl (by kernel_rfl) (by kernel_rfl) ?_
              | refine WO_guard_f rfl rfl rfl rfl rfl rfl (by kernel_rfl) (by kernel_rfl) ?_
              | refine Ev_move rfl ?_
              | refine Ev_pick_f rfl rfl rfl ?_
              | refine Ev_sneq rfl rfl ?_
              | (refine WO_guard_dt rfl rfl rfl rfl rfl (by kernel_rfl) (by kernel_rfl) (fun hg => ?_) (fun hg => ?_) <;> (try dsimp only at hg) <;> try (exfalso; first | omega | exact hg rfl)))
          rotate_left
          · exact absurd (Classical.not_not.1 hg) hv
          refine Ev_slice_str (lo' := some (.int .i64 ((1 : Nat) : Int))) (hi' := none) (mx' := none) rfl rfl rfl rfl rfl rfl (str_lo hql) ?_
          rw [← hres]
          repeat' (
            first
              | refine WO_dst rfl rfl (by kernel_rfl) (by kernel_rfl) ?_
              | refine WO_guard_t rfl rfl rfl rfl rfl (by kernel_rfl) (by kernel_rfl) ?_)
          refine Ev_call rfl rfl ((rfield_runs (by omega)).mono ?_)
          rintro _ _ - ⟨rfl, rfl⟩
          rename_i T
          by_cases hp : fieldP res
          · have e := good (.inr hp)
            rw [decide_eq_true hp]
            repeat' (
              first
                | refine W_seq ?_
                | refine WO_nil ?_
                | refine V_seq ?_
                | refine W_drawn (by kernel_rfl) ?_
                | refine W_skip ?_
                | refine W_cond_f rfl ?_
                | refine WO_dst rfl rfl (by kernel_rfl) (by kernel_rfl) ?_
                | refine WO_guard_t rfl rfl rfl rfl rfl (by kernel_rfl) (by kernel_rfl) ?_
                | refine Ev_move rfl ?_
                | refine Ev_pick_t rfl rfl rfl ?_
                | refine Ev_pick_f rfl rfl rfl ?_
                | refine Ev_notb rfl ?_)
            refine Ev_slice_str (lo' := some (.int .i64 ((1 : Nat) : Int))) (hi' := none) (mx' := none) rfl rfl rfl rfl rfl rfl (str_lo hql) ?_
            rw [← hres]
            repeat' (
              first
                | refine WO_nil ?_
                | refine V_seq ?_
                | refine W_ret ?_
                | refine WO_dst rfl rfl (by kernel_rfl) (by kernel_rfl) ?_
                | refine Ev_assign rfl ?_)
            refine V_done rfl rfl ⟨⟨by omega, by omega, hF.ok, hF.same⟩, w, ?_, ?_, hbw⟩
            · unfold methR; rw [e]; rfl
            · unfold methR; rw [e]; exact how.eq rfl hl.symm
          · rw [decide_eq_false hp]
            repeat' (
              first
                | refine W_seq ?_
                | refine WO_nil ?_
                | refine V_seq ?_
                | refine W_region ?_
                | refine W_ret ?_
                | refine V_ret ?_
                | refine W_cond_t rfl ?_
                | refine WO_dst rfl rfl (by kernel_rfl) (by kernel_rfl) ?_
                | refine WO_guard_t rfl rfl rfl rfl rfl (by kernel_rfl) (by kernel_rfl) ?_
                | refine Ev_assign rfl ?_
                | refine Ev_pick_t rfl rfl rfl ?_
                | refine Ev_pick_f rfl rfl rfl ?_
                | refine Ev_notb rfl ?_)
            exact V_done rfl rfl (bad _ ⟨by omega, by omega, hF.ok, hF.same⟩ (meth_bad hr hqe hl h0 (.inr (.inr fun h => by rw [← hres] at h; rcases h with h | h; exact hv h; exact hp h))))
      · have hbad := meth_bad hr hqe hl h0 (.inr (.inl (by omega)))
        repeat' (
          first
            | refine W_seq ?_
            | refine WO_nil ?_
            | refine V_seq ?_
            | refine W_region ?_
            | refine W_ret ?_
            | refine V_ret ?_
            | refine W_cond_t rfl ?_
            | refine WO_dst rfl rfl (by kernel_rfl) (by kernel_rfl) ?_
            | refine WO_guard_t rfl rfl rfl rfl rfl (by kernel_rfl) (by kernel_rfl) ?_
            | refine WO_guard_f rfl rfl rfl rfl rfl rfl (by kernel_rfl) (by kernel_rfl) ?_
            | refine WO_guard_x rfl rfl rfl rfl rfl (by kernel_rfl) (by kernel_rfl) ?_
            | refine Ev_len rfl rfl rfl rfl rfl how.rd.len ?_
            | refine Ev_move rfl ?_
            | refine Ev_assign rfl ?_
            | refine Ev_pick_t rfl rfl rfl ?_
            | refine Ev_pick_f rfl rfl rfl ?_
            | refine Ev_gtrN rfl rfl ?_
            | (refine WO_guard_df rfl rfl rfl rfl rfl (by kernel_rfl) (by kernel_rfl) (fun hg => ?_) (fun hg => ?_) <;> (try dsimp only at hg) <;> try (exfalso; first | omega | exact hg rfl)))
        exact V_done rfl rfl (bad _ ⟨by omega, by omega, hF.ok, hF.same⟩ hbad)
    · exact absurd hg (by assumption)
    · exact absurd hg (by assumption)
    · have hq0' : q = [] := hg
      have hbad := meth_bad hr hqe hl (by rw [hq0']; rfl) (.inl (by rw [hq0']; simp))
      exact V_done rfl rfl (bad _ ⟨by omega, by omega, hF.ok, hF.same⟩ hbad)
  · refine V_done rfl rfl (bad _ ⟨Nat.le_refl _, by omega, hok, fun _ _ _ => rfl⟩ ?_)
    unfold methS; rw [if_neg (fun h => (ht40.1 h.1).1 hg)]
end Go.Proofs.Ytdhfjkikoiifcaa
/- carafelaw2.DescrKept over the model's own runs. (NODRAWN) -/



namespace Go.Proofs.Ytdhfjkikoiifcaa
open GX
set_option maxHeartbeats 16000000
set_option maxRecDepth 100000
theorem methR_len (s : List Nat) : (methR s).1.length ≤ 8 := by
  unfold methR methS
  have := (fieldsM_len 8 (s.drop 1)).1
  split
  · rename_i x hx
    split at hx
    · cases hx; exact this
    · cases hx
  · exact Nat.zero_le _
theorem kept_calls [Val] (hx1 : ∀ f g, X1.ext f = some g → ExtOK Try.prog f g) (w : Go.World) (hro : ∀ g o, Val.ro g = some o → w.heap[g]? = some o) :
    Go.Calls Try.prog 3 #[] w fun e w' => e = .returned (.bool true) ∧ Go.RowKit.Below w.heap.size w w' := by
  have hX := xok2
  have hx := ext2_ok hx1
  have hX' := hX
  have hx' := hx
  refine SW_true (m := 21) (args := []) xok2 Try.func3 rfl (by kernel_rfl) (by kernel_rfl) ?_ rfl w hro
  repeat (
    first
      | refine SW_seq ?_
      | refine SWO_nil ?_
      | refine SV_seq ?_
      | refine SW_region ?_
      | refine SWO_dst hX hx rfl rfl (by kernel_rfl) (by kernel_rfl) ?_
      | refine Ev_assign rfl ?_)
  refine Ev_alloc_ rfl (by intro c x h; simp [Tr.get] at h) (by decide) ?_
  intro T hTn hTok hTq hTf
  have p0 : Pd T 0 [] [] 0 := Pd.start hTok hTq
  dsimp only at hTn
  repeat (
    first
      | refine SW_seq ?_
      | refine SWO_nil ?_
      | refine SV_seq ?_
      | refine SW_region ?_
      | refine SW_block ?_
      | refine SWO_dst hX hx rfl rfl (by kernel_rfl) (by kernel_rfl) ?_
      | refine Ev_assign rfl ?_)
  refine SW_inv (fun i : Nat => [(2, .int .i64 ((i : Nat) : Int)), (1, .ptr 0 0)]) (fun i T => i ≤ 2 ∧ (∃ is, Pd T 0 is [] i) ∧ T.n ≤ 1 + 100 * i) (fun i => 2 - i) ?_ 0 ⟨by omega, ⟨_, p0⟩, by omega⟩ ⟨rfl, rfl, trivial⟩
  rintro i T2 ⟨hi, ⟨is, hp⟩, hTn2⟩ back
  repeat' (
    first
      | refine SW_seq ?_
      | refine SWO_nil ?_
      | refine SV_seq ?_
      | refine SW_region ?_
      | refine SWO_dst hX hx rfl rfl (by kernel_rfl) (by kernel_rfl) ?_
      | refine Ev_move rfl ?_
      | refine Ev_lssN rfl rfl ?_)
  refine SW_cond rfl (fun hc => ?_) (fun hc => ?_)
  · have hlt : i < 2 := hc
    have hX := xok1
    have hx := hx1
    repeat (
      first
        | refine SW_seq ?_
        | refine SV_seq ?_
        | refine SW_region ?_
        | refine SW_skip ?_
        | refine SW_block ?_
        | refine SWO_dst hX hx rfl rfl (by kernel_rfl) (by kernel_rfl) ?_)
    refine Ev_call rfl rfl ((method_runs (s := [40, 73, 76, 65, 59, 41, 86]) hp.ok (by decide) (by omega)).mono ?_)
    rintro _ T3 - ⟨hF3, sl, rfl, hown, hbn⟩
    have g3n := hF3.n
    have g3l := hF3.le
    generalize hcs : (methR [40, 73, 76, 65, 59, 41, 86]).1 = cs at *
    have hcl : cs.length ≤ 8 := by rw [← hcs]; exact methR_len _
    have hX := hX'
    have hx := hx'
    have p3 : Pd T3 0 is [(sl, cs)] i := hp.more hF3.ok (fun c hc => hF3.same c (by simp [blkOf]) hc) (fun x hx => by rw [List.mem_singleton] at hx; subst hx; exact ⟨.inl hown, Nat.le_trans hcl (by decide)⟩) (fun x hx => by rw [List.mem_singleton] at hx; subst hx; exact hbn) (List.pairwise_singleton _ _)
    repeat (first | (refine SWO_dst hX hx rfl rfl (by kernel_rfl) (by kernel_rfl) ?_; first | refine Ev_assign rfl ?_ | refine Ev_move rfl ?_ | refine Ev_extract rfl rfl ?_ | refine Ev_field rfl rfl rfl rfl rfl ?_) | refine SWO_nil ?_ | refine SV_seq ?_ | refine SW_seq ?_ | refine SW_region ?_)
    refine SWO_it (d := 15) rfl (p3.kz _ (List.mem_cons_self ..)).1 (Nat.le_trans hcl (by decide)) hF3.ok (by kernel_rfl) (by kernel_rfl) ?_
    intro it T4 k1 k2 k3 k4 k5 k6
    obtain ⟨p4, q1, vl, vw, hh, q2, q3, q4⟩ := p3.cap k1 k2 k3 k4 k6
    repeat (
      refine SWO_dst hX hx rfl rfl (by kernel_rfl) (by kernel_rfl) ?_)
    refine Ev_call rfl rfl ((keep_pd p4 q1 q2 q3 q4 k1 k3 (by omega) (by omega)).mono ?_)
    rintro _ T5 - ⟨⟨is', p5⟩, g5l, g5n⟩
    repeat (
      first
        | refine SWO_nil ?_
        | refine SV_seq ?_
        | refine SW_region ?_
        | refine SV_block ?_
        | refine SWO_dst hX hx rfl rfl (by kernel_rfl) (by kernel_rfl) ?_
        | refine Ev_move rfl ?_
        | refine Ev_assign rfl ?_
        | refine Ev_addN rfl rfl (by simp only [lim]; omega) ?_)
    exact back (i + 1) T5 _ (by omega) ⟨by omega, ⟨_, p5⟩, by omega⟩ ⟨rfl, rfl, trivial⟩
  · repeat (
      first
        | refine SW_seq ?_
        | refine SV_seq ?_
        | refine SW_region ?_
        | refine SW_exit ?_
        | refine SV_block_x rfl ?_
        | refine SV_seq_x ?_
        | refine SV_loop_x ?_
        | refine SWO_dst hX hx rfl rfl (by kernel_rfl) (by kernel_rfl) ?_)
    refine Ev_call rfl rfl ((apart_pd hp (by omega)).mono ?_)
    rintro _ T7 - rfl
    repeat (
      first
        | refine SWO_dst hX hx rfl rfl (by kernel_rfl) (by kernel_rfl) ?_
        | refine SWO_guard_t rfl rfl rfl rfl rfl (by kernel_rfl) (by kernel_rfl) ?_
        | refine Ev_move rfl ?_)
    refine Ev_call rfl rfl (known_true2 ?_)
    repeat (
      first
        | refine SWO_nil ?_
        | refine SV_seq ?_
        | refine SW_ret ?_
        | refine SWO_dst hX hx rfl rfl (by kernel_rfl) (by kernel_rfl) ?_
        | refine Ev_assign rfl ?_
        | refine Ev_pick_t rfl rfl rfl ?_)
    exact SV_done rfl rfl rfl
end Go.Proofs.Ytdhfjkikoiifcaa
