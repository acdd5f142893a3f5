/- What the row leans on, part 13: texts one behind the other. No condition. -/
import Derived.Test.YthhbnnnokmefoaaDoorMg12
import Derived.KernelRfl
/- carafelaw3.PoolAdds. -/


namespace Go.Proofs.YthhbnnnokmefoaaDoor
open GX
set_option maxHeartbeats 16000000
theorem cellsC_take : ∀ (cs : List CnA) (i : Nat), (cellsC cs).take (i * 5) = cellsC (cs.take i)
  | [], i => by simp [cellsC]
  | c :: cs, 0 => by simp [cellsC]
  | c :: cs, i + 1 => by
    show (c.cells ++ cellsC cs).take ((i + 1) * 5) = c.cells ++ cellsC (cs.take i)
    rw [show (i + 1) * 5 = c.cells.length + i * 5 by simp [CnA.cells]; omega, List.take_length_add_append, cellsC_take cs i]
section
variable {X : X} {l : L} {S : St} {R : AV → St → Prop} {x y : Go.Operand} {t u : Nat}
theorem Ev_bneq {a b : Bool} {i : TI} (hx : od l x = some (.bool a)) (hy : od l y = some (.bool b)) (hi : X.ti t = some i) (hd : i.desc = .bool) (hR : R (.bool (!(a == b))) S) : Ev X l S (.binOp .neq t x y u) R :=
  Ev_bin hx hy rfl (by unfold abin; dsimp only; unfold aeq; rw [hi]; dsimp only; rw [hd]) hR
end
theorem rd_noblk {v : AV} {sz : Nat} {cs : List AV} {m : Nat} (h : ∀ S, Rd S v sz cs m) : blkOf v = none := by
  cases hb : blkOf v with
  | none => rfl
  | some b => exact absurd ((h { h := .leaf, n := 0 }).lt (by intro c x h; simp [Tr.get] at h) hb) (Nat.not_lt_zero _)
/-- what is kept behind some constants: the pool, and their numbers -/
def accS (l : List CnA) : Nat → List CnA × List Int
  | 0 => ([], [])
  | i + 1 => match l[i]? with
    | none => accS l i
    | some c => if rightP c then (match cidx c (accS l i).1 with | some n => ((accS l i).1, (accS l i).2 ++ [((n : Nat) : Int)]) | none => ((accS l i).1 ++ [c], (accS l i).2 ++ [(((accS l i).1.length : Nat) : Int)])) else ((accS l i).1, (accS l i).2 ++ [-1])
theorem accS_s {l : List CnA} {i : Nat} (h : i < l.length) : accS l (i + 1) = if rightP l[i] then (match cidx l[i] (accS l i).1 with | some n => ((accS l i).1, (accS l i).2 ++ [((n : Nat) : Int)]) | none => ((accS l i).1 ++ [l[i]], (accS l i).2 ++ [(((accS l i).1.length : Nat) : Int)])) else ((accS l i).1, (accS l i).2 ++ [-1]) := by
  show (match l[i]? with | none => accS l i | some c => _) = _
  rw [List.getElem?_eq_getElem h]
/-- where each constant is -/
def atOk (p : List CnA) (c : CnA) (n : Int) : Prop := (¬ rightP c ∧ n = -1) ∨ (rightP c ∧ ∃ m : Nat, n = (m : Int) ∧ cidx c p = some m)
theorem atOk_app {p q : List CnA} {c : CnA} {n : Int} (h : atOk p c n) : atOk (p ++ q) c n := by
  rcases h with h | ⟨h, m, h1, h2⟩
  · exact .inl h
  · exact .inr ⟨h, m, h1, cidx_app h2⟩
theorem accS_ok {l : List CnA} : ∀ (i : Nat), i ≤ l.length → (accS l i).1.length ≤ i ∧ (accS l i).2.length = i ∧ ∀ (j : Nat) (c : CnA) (n : Int), l[j]? = some c → (accS l i).2[j]? = some n → atOk (accS l i).1 c n
  | 0, _ => ⟨Nat.le_refl _, rfl, fun j c n _ h => by simp [accS] at h⟩
  | i + 1, h => by
    obtain ⟨h1, h2, h3⟩ := accS_ok (l := l) i (by omega)
    have hi : i < l.length := by omega
    have key : ∀ (q : List CnA) (z : Int), atOk ((accS l i).1 ++ q) l[i] z → ∀ (j : Nat) (c : CnA) (n : Int), l[j]? = some c → ((accS l i).2 ++ [z])[j]? = some n → atOk ((accS l i).1 ++ q) c n := by
      intro q z hz j c n hj hn
      by_cases hlt : j < i
      · rw [List.getElem?_append_left (by omega)] at hn
        exact atOk_app (h3 j c n hj hn)
      · have : j = i := by
          have := (List.getElem?_eq_some_iff.1 hn).1
          simp at this; omega
        subst this
        have hjl : (accS l j).2.length ≤ j := by rw [h2]; exact Nat.le_refl _
        rw [List.getElem?_append_right hjl, h2] at hn
        simp at hn
        rw [List.getElem?_eq_getElem hi] at hj
        cases hj; rw [← hn]; exact hz
    rw [accS_s hi]
    by_cases hr : rightP l[i]
    · rw [if_pos hr]
      cases hc : cidx l[i] (accS l i).1 with
      | some m =>
        refine ⟨by dsimp only; omega, by simp; exact h2, ?_⟩
        have := key [] ((m : Nat) : Int) (by rw [List.append_nil]; exact .inr ⟨hr, m, rfl, hc⟩)
        simpa using this
      | none =>
        refine ⟨by simp; omega, by simp; exact h2, ?_⟩
        exact key [l[i]] _ (.inr ⟨hr, _, rfl, cidx_snoc hc⟩)
    · rw [if_neg hr]
      refine ⟨by dsimp only; omega, by simp; exact h2, ?_⟩
      have := key [] (-1) (by rw [List.append_nil]; exact .inl ⟨hr, rfl⟩)
      simpa using this
def intsV (l : List Int) : List AV := l.map (AV.int .i64)
theorem intsV_get {l : List Int} {i : Nat} {n : Int} (h : l[i]? = some n) : (intsV l)[i * 1]? = some (.int .i64 n) := by
  unfold intsV; rw [Nat.mul_one, List.getElem?_map, h]; rfl
theorem known_true {S : St} {R : AV → St → Prop} (h : R (.bool true) S) : Runs X1 23 [] S R := Runs_ext (g := extTrue) rfl rfl (Nat.le_refl _) h
theorem adds_runs {S : St} {lv : AV} {cs : List CnA} (hok : Sok S) (hlv : ∀ S, Rd S lv 5 (cellsC cs) cs.length) (hgood : ∀ c ∈ cs, c.Good) (hn : S.n ≤ 1000) :
    Runs X1 5 [lv] S fun r _ => r = .bool true := by
  have hno := rd_noblk hlv
  refine Runs_fn (m := 132) (by kernel_rfl) Tryd.func5 rfl (by kernel_rfl) (by kernel_rfl) ?_
  repeat (
    first
      | refine W_seq ?_
      | refine WO_nil ?_
      | refine V_seq ?_
      | refine W_region ?_
      | refine W_block ?_
      | refine WO_dst rfl rfl (by kernel_rfl) (by kernel_rfl) ?_
      | refine Ev_assign rfl ?_)
  refine W_inv (fun a : Nat × AV × AV => [(5, .int .i64 ((a.1 : Nat) : Int)), (3, a.2.1), (4, a.2.2), (0, lv)]) (fun a T => Sok T ∧ a.1 ≤ 60 ∧ a.1 ≤ cs.length ∧ Cs T a.2.1 (accS cs a.1).1 ∧ Own T a.2.2 3 1 (intsV (accS cs a.1).2) a.1 ∧ (∀ b, blkOf a.2.1 = some b → blkOf a.2.2 ≠ some b) ∧ T.n ≤ 200 * a.1 + 2000) (fun a => 61 - a.1) ?_ (0, .nils, .nils) ⟨hok, by simp, by simp, ⟨rfl, rfl, rfl, rfl, rfl, rfl⟩, .inl ⟨rfl, rfl, rfl⟩, fun b h => (by cases h), by dsimp only; omega⟩ ⟨rfl, rfl, rfl, rfl, trivial⟩
  rintro ⟨i, pv, tv⟩ T ⟨hokT, hi, hil, hp, ht, hpt, hTn⟩ back
  dsimp only at hi hil hp ht hpt hTn back
  obtain ⟨ha1, ha2, ha3⟩ := accS_ok i hil
  repeat' (
    first
      | refine W_seq ?_
      | refine WO_nil ?_
      | refine V_seq ?_
      | refine W_region ?_
      | refine W_block ?_
      | refine W_skip ?_
      | refine W_exit ?_
      | refine V_block_x rfl ?_
      | refine V_seq_x ?_
      | refine V_loop_x ?_
      | refine W_cond_f rfl ?_
      | refine WO_dst rfl rfl (by kernel_rfl) (by kernel_rfl) ?_
      | refine WO_guard_t rfl rfl rfl rfl rfl (by kernel_rfl) (by kernel_rfl) ?_
      | refine WO_guard_f rfl rfl rfl rfl rfl rfl (by kernel_rfl) (by kernel_rfl) ?_
      | refine Ev_len rfl rfl rfl rfl rfl (hlv T).len ?_
      | refine Ev_move rfl ?_
      | refine Ev_assign rfl ?_
      | refine Ev_pick_t rfl rfl rfl ?_
      | refine Ev_pick_f rfl rfl rfl ?_
      | refine Ev_lssN rfl rfl ?_
      | (refine WO_guard_dt rfl rfl rfl rfl rfl (by kernel_rfl) (by kernel_rfl) (fun hg => ?_) (fun hg => ?_) <;> (try dsimp only at hg) <;> try (exfalso; first | omega | exact hg rfl))
      | (refine W_cond rfl (fun hc => ?_) (fun hc => ?_) <;> (try dsimp only at hc) <;> try (exfalso; first | omega | exact hc rfl)))
  · have hlt : i < cs.length := by assumption
    obtain ⟨c, hc⟩ : ∃ c, c = cs[i] := ⟨_, rfl⟩
    have hcg : c.Good := hgood c (by rw [hc]; exact List.getElem_mem _)
    have hcell := cellsC_get cs i hlt
    rw [← hc] at hcell
    have hacc := accS_s hlt
    rw [← hc] at hacc
    repeat (
      first
        | refine WO_dst rfl rfl (by kernel_rfl) (by kernel_rfl) ?_
        | refine Ev_indexAddr_n rfl rfl rfl rfl rfl (hlv T) hno hlt ?_
        | refine Ev_load_pt_agg rfl rfl rfl (.inr rfl) (by rw [cellsC_len]; dsimp only; omega) hcell (CnA.veqs c) ?_)
    refine Ev_call rfl rfl ((add_runs hokT hp hcg (by omega) (by omega)).mono ?_)
    rintro _ T1 - ⟨hF1, q, rfl, hq, hbq⟩
    have gn1 := hF1.n
    have gl1 := hF1.le
    have hp1 := hp.keep (fun c h => hF1.same c (by simp [blkOf]) (hp.lt hokT h))
    have ht1 := ht.keep (fun c h => hF1.same c (by simp [blkOf]) (ht.lt hokT h))
    repeat (
      first
        | refine W_seq ?_
        | refine WO_nil ?_
        | refine V_seq ?_
        | refine W_region ?_
        | refine WO_dst rfl rfl (by kernel_rfl) (by kernel_rfl) ?_
        | refine Ev_indexAddr_n rfl rfl rfl rfl rfl (hlv T1) hno hlt ?_
        | refine Ev_load_pt_agg rfl rfl rfl (.inr rfl) (by rw [cellsC_len]; dsimp only; omega) hcell (CnA.veqs c) ?_
        | refine Ev_move rfl ?_
        | refine Ev_assign rfl ?_
        | refine Ev_extract rfl rfl ?_
        | refine Ev_eql rfl rfl ?_)
    refine Ev_call rfl rfl ((right_runs hF1.ok hcg (by omega)).mono ?_)
    rintro _ T2 - ⟨rfl, hF2⟩
    have gn2 := hF2.n
    have gl2 := hF2.le
    have hp2 := hp1.keep (fun c h => hF2.same c (by simp [blkOf]) (hp1.lt hF1.ok h))
    have ht2 := ht1.keep (fun c h => hF2.same c (by simp [blkOf]) (ht1.lt hF1.ok h))
    have hq2 := hq.rd.keep (fun c h => hF2.same c (by simp [blkOf]) (hq.lt hF1.ok h))
    by_cases hr : rightP c
    · rw [decide_eq_true hr]
      rw [if_pos hr] at hacc
      have hx : ∃ n : Int, accS cs (i + 1) = ((addS (accS cs i).1 c).1, (accS cs i).2 ++ [n]) ∧ (addS (accS cs i).1 c).2 = (n, 0) ∧ (addS (accS cs i).1 c).1.take (accS cs i).1.length = (accS cs i).1 ∧ (accS cs i).1.length ≤ (addS (accS cs i).1 c).1.length := by
        unfold addS
        rw [if_pos hr]
        cases hci : cidx c (accS cs i).1 with
        | some m => rw [hci] at hacc; exact ⟨_, hacc, rfl, List.take_length, Nat.le_refl _⟩
        | none =>
          rw [hci] at hacc
          dsimp only
          rw [if_neg (by omega)]
          exact ⟨_, hacc, rfl, by simp, by simp⟩
      obtain ⟨n, hx1, hx2, hx3, hx4⟩ := hx
      rw [hx2]
      obtain ⟨Q, hQ⟩ : ∃ Q, Q = (addS (accS cs i).1 c).1 := ⟨_, rfl⟩
      rw [← hQ] at hx1 hx3 hx4 hq2
      have hbq2 : ∀ b, blkOf q = some b → T.n ≤ b := hbq
      have hQl : Q.length ≤ i + 1 := by
        have := (accS_ok (i + 1) (show i + 1 ≤ cs.length by omega)).1
        rw [hx1] at this; exact this
      repeat' (
        refine WO_dst rfl rfl (by kernel_rfl) (by kernel_rfl) ?_)
      refine Ev_bneq rfl rfl rfl rfl ?_
      repeat' (
        first
          | refine W_seq ?_
          | refine WO_nil ?_
          | refine V_seq ?_
          | refine W_region ?_
          | refine W_skip ?_
          | refine W_cond_f rfl ?_
          | refine WO_dst rfl rfl (by kernel_rfl) (by kernel_rfl) ?_
          | refine WO_guard_t rfl rfl rfl rfl rfl (by kernel_rfl) (by kernel_rfl) ?_
          | refine Ev_len rfl rfl rfl rfl rfl hq2.len ?_
          | refine Ev_len rfl rfl rfl rfl rfl hp2.len ?_
          | refine Ev_move rfl ?_
          | refine Ev_lssN rfl rfl ?_
          | refine Ev_neqN rfl rfl ?_
          | (refine WO_guard_df rfl rfl rfl rfl rfl (by kernel_rfl) (by kernel_rfl) (fun hg => ?_) (fun hg => ?_) <;> (try dsimp only at hg) <;> try (exfalso; first | omega | exact hg rfl)))
      refine Ev_slice_hi rfl rfl rfl rfl rfl hq2 hx4 ?_
      intro q' hq' _
      have hq3 : Cs T2 q' (accS cs i).1 := hq'.eq (by show (cellsC Q).take ((accS cs i).1.length * 5) = _; rw [cellsC_take, hx3]) rfl
      repeat (
        first
          | refine WO_dst rfl rfl (by kernel_rfl) (by kernel_rfl) ?_
          | refine WO_guard_t rfl rfl rfl rfl rfl (by kernel_rfl) (by kernel_rfl) ?_
          | refine Ev_move rfl ?_)
      refine Ev_call rfl rfl ((csame_runs hq3 hp2 ⟨by omega, by omega⟩).mono ?_)
      rintro _ _ - ⟨rfl, rfl⟩
      rename_i T2
      rw [decide_eq_true rfl]
      repeat' (
        first
          | refine W_seq ?_
          | refine WO_nil ?_
          | refine V_seq ?_
          | refine W_region ?_
          | refine W_skip ?_
          | refine W_cond_f rfl ?_
          | refine WO_dst rfl rfl (by kernel_rfl) (by kernel_rfl) ?_
          | refine WO_guard_t rfl rfl rfl rfl rfl (by kernel_rfl) (by kernel_rfl) ?_
          | refine Ev_move rfl ?_
          | refine Ev_assign rfl ?_
          | refine Ev_pick_f rfl rfl rfl ?_
          | refine Ev_notb rfl ?_)
      refine Ev_buildSlice rfl rfl rfl rfl rfl rfl hF2.ok (by omega) ?_
      intro T3 gn3 gok3 gq3 gf3
      have ht3 := ht2.keep (fun c h => gf3 c (ht2.lt hF2.ok h))
      have hq4 := hq2.keep (fun c h => gf3 c (hq2.lt hF2.ok h))
      have hrd : Rd T3 (.slice T2.n 0 1 (.ex 1)) 1 [.int .i64 n] 1 := Rd_lit gq3 rfl rfl
      repeat (
        refine WO_dst rfl rfl (by kernel_rfl) (by kernel_rfl) ?_)
      refine Ev_append rfl rfl rfl rfl rfl rfl rfl rfl rfl rfl ht3 hrd (by simp [AV.one]) gok3 (by omega) (by dsimp only; omega) (by omega) ?_
      intro w5 T5 gl5 gn5 gok5 ht5 gf5 gb5
      have hqt : ∀ b, blkOf q = some b → blkOf tv ≠ some b := fun b h1 h2 => by
        have := hbq2 b h1
        have := ht.lt hokT h2
        omega
      have hq5 := hq4.keep (fun b h => gf5 b (hqt b h) (hq4.lt gok3 h))
      repeat (
        first
          | refine WO_nil ?_
          | refine V_seq ?_
          | refine W_region ?_
          | refine V_block ?_
          | refine WO_dst rfl rfl (by kernel_rfl) (by kernel_rfl) ?_
          | refine Ev_move rfl ?_
          | refine Ev_assign rfl ?_
          | refine Ev_addN rfl rfl (by simp only [lim]; omega) ?_)
      refine back (i + 1, q, w5) T5 _ (by dsimp only; omega) ⟨gok5, by dsimp only; omega, by dsimp only; omega, ?_, ?_, fun b h1 h2 => ?_, by dsimp only; omega⟩ ⟨rfl, rfl, rfl, rfl, trivial⟩
      · dsimp only; rw [hx1]; exact hq5
      · dsimp only; rw [hx1]
        exact ht5.eq (by unfold intsV; simp) rfl
      · rcases gb5 b h2 with h | h
        · exact hqt b h1 h
        · have := hq4.lt gok3 h1; omega
    · have e : addS (accS cs i).1 c = ([], 0, 14) := by unfold addS; rw [if_neg hr]
      rw [if_neg hr] at hacc
      rw [decide_eq_false hr, e]
      repeat' (
        refine WO_dst rfl rfl (by kernel_rfl) (by kernel_rfl) ?_)
      refine Ev_bneq rfl rfl rfl rfl ?_
      repeat' (
        first
          | refine W_seq ?_
          | refine WO_nil ?_
          | refine V_seq ?_
          | refine W_region ?_
          | refine W_skip ?_
          | refine W_cond_t rfl ?_
          | refine W_cond_f rfl ?_
          | refine WO_dst rfl rfl (by kernel_rfl) (by kernel_rfl) ?_
          | refine Ev_move rfl ?_
          | refine Ev_neqN rfl rfl ?_)
      refine Ev_buildSlice rfl rfl rfl rfl rfl rfl hF2.ok (by omega) ?_
      intro T3 gn3 gok3 gq3 gf3
      have ht3 := ht2.keep (fun c h => gf3 c (ht2.lt hF2.ok h))
      have hp3 := hp2.keep (fun c h => gf3 c (hp2.lt hF2.ok h))
      have hrd : Rd T3 (.slice T2.n 0 1 (.ex 1)) 1 [.int .i64 (-1)] 1 := Rd_lit gq3 rfl rfl
      repeat (
        refine WO_dst rfl rfl (by kernel_rfl) (by kernel_rfl) ?_)
      refine Ev_append rfl rfl rfl rfl rfl rfl rfl rfl rfl rfl ht3 hrd (by simp [AV.one]) gok3 (by omega) (by dsimp only; omega) (by omega) ?_
      intro w5 T5 gl5 gn5 gok5 ht5 gf5 gb5
      have hp5 := hp3.keep (fun b h => gf5 b (hpt b h) (hp3.lt gok3 h))
      repeat' (
        first
          | refine WO_nil ?_
          | refine V_seq ?_
          | refine W_region ?_
          | refine W_exit ?_
          | refine V_block_x rfl ?_
          | refine V_seq_x ?_
          | refine WO_dst rfl rfl (by kernel_rfl) (by kernel_rfl) ?_
          | refine Ev_move rfl ?_
          | refine Ev_assign rfl ?_
          | refine Ev_addN rfl rfl (by simp only [lim]; omega) ?_)
      refine back (i + 1, pv, w5) T5 _ (by dsimp only; omega) ⟨gok5, by dsimp only; omega, by dsimp only; omega, ?_, ?_, fun b h1 h2 => ?_, by dsimp only; omega⟩ ⟨rfl, rfl, rfl, rfl, trivial⟩
      · dsimp only; rw [hacc]; exact hp5
      · dsimp only; rw [hacc]
        exact ht5.eq (by unfold intsV; simp) rfl
      · rcases gb5 b h2 with h | h
        · exact hpt b h1 h
        · have := hp3.lt gok3 h1; omega
  all_goals
    have hm : i = cs.length ∨ i = 60 := by omega
    obtain ⟨P, hP⟩ : ∃ P, P = (accS cs i).1 := ⟨_, rfl⟩
    obtain ⟨A, hA⟩ : ∃ A, A = (accS cs i).2 := ⟨_, rfl⟩
    rw [← hP] at ha1 ha3 hp
    rw [← hA] at ha2 ha3 ht
    refine W_inv (fun j : Nat => [(9, .int .i64 ((j : Nat) : Int)), (3, pv), (4, tv), (0, lv)]) (fun j U => Sok U ∧ j ≤ i ∧ Cs U pv P ∧ Own U tv 3 1 (intsV A) i ∧ U.n ≤ 200 * j + 20000) (fun j => i - j) ?_ 0 ⟨hokT, by omega, hp, ht, by omega⟩ ⟨rfl, rfl, rfl, rfl, trivial⟩
    rintro j U ⟨hokU, hj, hpU, htU, hUn⟩ back2
    repeat' (
      first
        | refine W_seq ?_
        | refine WO_nil ?_
        | refine V_seq ?_
        | refine W_region ?_
        | refine W_block ?_
        | refine W_skip ?_
        | refine W_exit ?_
        | refine V_block_x rfl ?_
        | refine V_seq_x ?_
        | refine V_loop_x ?_
        | refine WO_dst rfl rfl (by kernel_rfl) (by kernel_rfl) ?_
        | refine Ev_len rfl rfl rfl rfl rfl htU.rd.len ?_
        | refine Ev_move rfl ?_
        | refine Ev_lssN rfl rfl ?_
        | (refine W_cond rfl (fun hc => ?_) (fun hc => ?_) <;> (try dsimp only at hc) <;> try (exfalso; first | omega | exact hc rfl)))
    · have hji : j < i := by assumption
      have hlt : j < cs.length := by omega
      obtain ⟨c, hc⟩ : ∃ c, c = cs[j] := ⟨_, rfl⟩
      have hcg : c.Good := hgood c (by rw [hc]; exact List.getElem_mem _)
      have hcell := cellsC_get cs j hlt
      rw [← hc] at hcell
      obtain ⟨n, hn2⟩ : ∃ n, A[j]? = some n := ⟨A[j]'(by omega), List.getElem?_eq_getElem (by omega)⟩
      have hat := ha3 j c n (by rw [hc]; exact List.getElem?_eq_getElem hlt) hn2
      refine Ev_indexAddr_rd rfl rfl rfl rfl rfl htU.rd hji ?_
      intro q1 hq1
      repeat (
        refine WO_dst rfl rfl (by kernel_rfl) (by kernel_rfl) ?_)
      refine Ev_load_pt rfl rfl rfl hq1 (intsV_get hn2) (veq_int _ _) ?_
      rcases hat with ⟨hr, rfl⟩ | ⟨hr, m, rfl, hci⟩
      · repeat' (
          first
            | refine WO_nil ?_
            | refine V_seq ?_
            | refine W_region ?_
            | refine W_exit ?_
            | refine V_block_x rfl ?_
            | refine V_seq_x ?_
            | refine W_cond_t rfl ?_
            | refine WO_dst rfl rfl (by kernel_rfl) (by kernel_rfl) ?_
            | refine Ev_move rfl ?_
            | refine Ev_assign rfl ?_
            | refine Ev_lss rfl rfl ?_
            | refine Ev_addN rfl rfl (by simp only [lim]; omega) ?_)
        exact back2 (j + 1) U _ (by omega) ⟨hokU, by omega, hpU, htU, by omega⟩ ⟨rfl, rfl, rfl, rfl, trivial⟩
      · repeat' (
          first
            | refine W_seq ?_
            | refine WO_nil ?_
            | refine V_seq ?_
            | refine W_drawn (by kernel_rfl) ?_
            | refine W_skip ?_
            | refine W_cond_f rfl ?_
            | refine WO_dst rfl rfl (by kernel_rfl) (by kernel_rfl) ?_
            | refine Ev_move rfl ?_
            | refine Ev_lssN rfl rfl ?_)
        refine Ev_indexAddr_rd rfl rfl rfl rfl rfl htU.rd hji ?_
        intro q2 hq2
        repeat (
          refine WO_dst rfl rfl (by kernel_rfl) (by kernel_rfl) ?_)
        refine Ev_load_pt rfl rfl rfl hq2 (intsV_get hn2) (veq_int _ _) ?_
        repeat (
          first
            | refine WO_dst rfl rfl (by kernel_rfl) (by kernel_rfl) ?_
            | refine Ev_indexAddr_n rfl rfl rfl rfl rfl (hlv U) hno hlt ?_
            | refine Ev_fieldAddr_n rfl rfl rfl rfl rfl rfl ?_
            | refine Ev_move rfl ?_)
        refine Ev_load_pt (v := .int .i64 c.kind) rfl rfl rfl (.inr rfl) (cellsC_at hlt (by decide) (by rw [← hc]; rfl)) (veq_int _ _) ?_
        repeat (
          refine WO_dst rfl rfl (by kernel_rfl) (by kernel_rfl) ?_)
        refine Ev_call rfl rfl ((get_runs hokU hpU (by omega) (by omega)).mono ?_)
        rintro _ U1 - ⟨rfl, hG1⟩
        have hPm := cidx_get hci
        obtain ⟨hml, hPm2⟩ := List.getElem?_eq_some_iff.1 hPm
        have hget : getS P ((m : Nat) : Int) c.kind = (c, 0) := by rw [getS_hit hml, hPm2, if_pos rfl]
        rw [hget]
        have un1 := hG1.n
        have ul1 := hG1.le
        have hp1 := hpU.keep (fun c h => hG1.same c (by simp [blkOf]) (hpU.lt hokU h))
        have ht1 := htU.keep (fun c h => hG1.same c (by simp [blkOf]) (htU.lt hokU h))
        repeat (
          first
            | refine WO_dst rfl rfl (by kernel_rfl) (by kernel_rfl) ?_
            | refine Ev_move rfl ?_
            | refine Ev_extract rfl rfl ?_)
        refine Ev_alloc_ rfl hG1.ok (by omega) ?_
        intro U2 un2 uok2 uq2 uf2
        repeat (
          refine WO_no rfl rfl ?_)
        refine Ev_store rfl rfl rfl rfl (CnA.ones c) uq2 (by simp [CnA.cells, AV.cells]) (by omega) ?_
        intro U3 un3 uq3 uf3
        have hG3 : Fr U1 U3 .nils 1 := ⟨by omega, by omega, sok_upd uok2 (by omega) un3 uq3 uf3, fun c _ h => by rw [uf3 c (by omega), uf2 c h]⟩
        have hp3 := hp1.keep (fun c h => hG3.same c (by simp [blkOf]) (hp1.lt hG1.ok h))
        have ht3 := ht1.keep (fun c h => hG3.same c (by simp [blkOf]) (ht1.lt hG1.ok h))
        have hb3 : U3.h.get U1.n = some (.cells 24 c.cells false) := uq3
        repeat (
          first
            | refine W_seq ?_
            | refine WO_nil ?_
            | refine V_seq ?_
            | refine W_region ?_
            | refine WO_dst rfl rfl (by kernel_rfl) (by kernel_rfl) ?_
            | refine Ev_indexAddr_n rfl rfl rfl rfl rfl (hlv U3) hno hlt ?_
            | refine Ev_load_pt_agg rfl rfl rfl (.inr rfl) (by rw [cellsC_len]; dsimp only; omega) hcell (CnA.veqs c) ?_
            | refine Ev_move rfl ?_
            | refine Ev_assign rfl ?_)
        refine Ev_call rfl rfl ((add_runs hG3.ok hp3 hcg (by omega) (by omega)).mono ?_)
        rintro _ U4 - ⟨hG4, w, rfl, hw, -⟩
        have hadd : addS P c = (P, ((m : Nat) : Int), 0) := by unfold addS; rw [if_pos hr, hci]
        rw [hadd] at hw ⊢
        have un4 := hG4.n
        have ul4 := hG4.le
        have hp4 := hp3.keep (fun c h => hG4.same c (by simp [blkOf]) (hp3.lt hG3.ok h))
        have ht4 := ht3.keep (fun c h => hG4.same c (by simp [blkOf]) (ht3.lt hG3.ok h))
        have hb4 : U4.h.get U1.n = some (.cells 24 c.cells false) := by rw [hG4.same U1.n (by simp [blkOf]) (by omega)]; exact hb3
        repeat' (
          first
            | refine W_seq ?_
            | refine WO_nil ?_
            | refine V_seq ?_
            | refine W_drawn (by kernel_rfl) ?_
            | refine WO_dst rfl rfl (by kernel_rfl) (by kernel_rfl) ?_
            | refine WO_guard_t rfl rfl rfl rfl rfl (by kernel_rfl) (by kernel_rfl) ?_
            | refine Ev_move rfl ?_
            | refine Ev_assign rfl ?_
            | refine Ev_extract rfl rfl ?_
            | refine Ev_neqN rfl rfl ?_)
        refine Ev_load_agg rfl rfl rfl hb4 (by simp [CnA.cells]) (show (c.cells.drop 0).take 5 = c.cells from rfl) (CnA.veqs c) ?_
        repeat' (
          first
            | refine WO_dst rfl rfl (by kernel_rfl) (by kernel_rfl) ?_
            | refine WO_guard_t rfl rfl rfl rfl rfl (by kernel_rfl) (by kernel_rfl) ?_
            | refine Ev_indexAddr_n rfl rfl rfl rfl rfl (hlv U4) hno hlt ?_
            | refine Ev_load_pt_agg rfl rfl rfl (.inr rfl) (by rw [cellsC_len]; dsimp only; omega) hcell (CnA.veqs c) ?_
            | refine Ev_cneq rfl rfl ?_
            | refine Ev_move rfl ?_
            | refine Ev_pick_f rfl rfl rfl ?_
            | refine Ev_neqN rfl rfl ?_
            | (refine WO_guard_df rfl rfl rfl rfl rfl (by kernel_rfl) (by kernel_rfl) (fun hg => ?_) (fun hg => ?_) <;> (try dsimp only at hg) <;> try (exfalso; first | omega | exact hg rfl)))
        refine Ev_indexAddr_rd rfl rfl rfl rfl rfl ht4.rd hji ?_
        intro q5 hq5
        repeat' (
          first
            | refine WO_dst rfl rfl (by kernel_rfl) (by kernel_rfl) ?_
            | refine WO_guard_t rfl rfl rfl rfl rfl (by kernel_rfl) (by kernel_rfl) ?_)
        refine Ev_load_pt rfl rfl rfl hq5 (intsV_get hn2) (veq_int _ _) ?_
        repeat' (
          first
            | refine WO_nil ?_
            | refine V_seq ?_
            | refine W_region ?_
            | refine W_skip ?_
            | refine V_block ?_
            | refine WO_dst rfl rfl (by kernel_rfl) (by kernel_rfl) ?_
            | refine WO_guard_t rfl rfl rfl rfl rfl (by kernel_rfl) (by kernel_rfl) ?_
            | refine Ev_len rfl rfl rfl rfl rfl hw.rd.len ?_
            | refine Ev_len rfl rfl rfl rfl rfl hp4.len ?_
            | refine Ev_move rfl ?_
            | refine Ev_assign rfl ?_
            | refine Ev_pick_f rfl rfl rfl ?_
            | refine Ev_neqN rfl rfl ?_
            | refine Ev_addN rfl rfl (by simp only [lim]; omega) ?_
            | (refine WO_guard_df rfl rfl rfl rfl rfl (by kernel_rfl) (by kernel_rfl) (fun hg => ?_) (fun hg => ?_) <;> (try dsimp only at hg) <;> try (exfalso; first | omega | exact hg rfl))
            | (refine W_cond rfl (fun hc => ?_) (fun hc => ?_) <;> (try dsimp only at hc) <;> try (exfalso; first | omega | exact hc rfl)))
        exact back2 (j + 1) U4 _ (by omega) ⟨hG4.ok, by omega, hp4, ht4, by omega⟩ ⟨rfl, rfl, rfl, rfl, trivial⟩
    · refine Ev_call rfl rfl (known_true ?_)
      repeat (
        first
          | refine WO_nil ?_
          | refine V_seq ?_
          | refine W_ret ?_
          | refine WO_dst rfl rfl (by kernel_rfl) (by kernel_rfl) ?_
          | refine Ev_assign rfl ?_)
      refine V_done rfl rfl ?_
      rfl
end Go.Proofs.YthhbnnnokmefoaaDoor
/- carafelaw3.PoolKept over the model's own runs. (NODRAWN) -/



namespace Go.Proofs.YthhbnnnokmefoaaDoor
open GX
set_option maxHeartbeats 16000000
set_option maxRecDepth 100000
theorem known_true2 {S : St} {R : AV → St → Prop} (h : R (.bool true) S) : Runs X2 23 [] S R := Runs_ext (g := extTrue) rfl rfl (Nat.le_refl _) h
/-- new blocks change nothing of a book -/
theorem Bk.far {T U : St} {p : Nat} {vl vw : AV} {h : Int} {is : List It} (b : Bk T p vl vw h is) (hok : Sok U) (hf : ∀ c, c < T.n → U.h.get c = T.h.get c) : Bk U p vl vw h is :=
  ⟨hok, by rw [hf p (b.ok _ _ b.at_)]; exact b.at_, b.lo.keep (fun c hc => hf c (b.l.lt b.ok hc)), b.wo.keep (fun c hc => hf c (b.w.lt b.ok hc)),
    fun i hi => (b.it i hi).keep (fun c hc => hf c ((b.it i hi).rd.lt b.ok hc)) (fun c hc => hf c ((b.it i hi).wr.lt b.ok hc)), b.lp, b.wp, b.lw, b.ip, b.dis, b.few⟩
theorem Bk.lts {T : St} {p : Nat} {vl vw : AV} {h : Int} {is : List It} (b : Bk T p vl vw h is) : p < T.n ∧ (∀ c, blkOf vl = some c → c < T.n) ∧ (∀ c, blkOf vw = some c → c < T.n) ∧ ∀ j ∈ is, ∀ c, blkOf j.v = some c → c < T.n :=
  ⟨b.ok _ _ b.at_, fun _ hc => b.l.lt b.ok hc, fun _ hc => b.w.lt b.ok hc, fun j hj _ hc => (b.it j hj).rd.lt b.ok hc⟩
theorem Bk.new {T : St} {p : Nat} (hok : Sok T) (hat : T.h.get p = some (.cells 50 [.nils, .nils, .int .i64 0, .bool false] false)) : Bk T p .nils .nils 0 [] :=
  ⟨hok, hat, .inl ⟨rfl, rfl, rfl⟩, .inl ⟨rfl, rfl, rfl⟩, fun i hi => (by cases hi), by simp [blkOf], by simp [blkOf], by simp [blkOf], fun i hi => (by cases hi), fun j k a b c h => (by simp at h), by simp⟩
theorem numC_right (n : Int) : rightP (numC n) := (rightP_3 rfl).2 ⟨rfl, rfl, rfl⟩
theorem addS_pos {cs : List CnA} (n : Int) (h : cs.length ≤ 20) : 0 < (addS cs (numC n)).1.length ∧ (addS cs (numC n)).1.length ≤ 21 := by
  unfold addS
  rw [if_pos (numC_right n)]
  cases hi : cidx (numC n) cs with
  | some m =>
    have := (List.getElem?_eq_some_iff.1 (cidx_get hi)).1
    dsimp only; omega
  | none =>
    dsimp only
    rw [if_neg (by omega), List.length_append, List.length_singleton]; omega
theorem numC_good {n : Nat} (h : n ≤ 10) : (numC (n : Int)).Good := ⟨by simp [numC], by simp [numC], by show _ ≤ (n : Int); omega, by show (n : Int) < _; omega, by simp [numC], by simp [numC], by simp [numC]⟩
theorem loadAt_c2 {H : Tr AB} {b : Nat} {c : CnA} {sp : Bool} (h : H.get b = some (.cells 24 c.cells sp)) : loadAt X2 H 24 b 0 = some (.agg c.cells) := by
  have e : row H b 0 5 = some c.cells := by unfold row; rw [h]; rfl
  show (match row H b 0 5 with | some cs => some (AV.agg cs) | none => none) = _
  rw [e]
theorem numc2_runs {S : St} {n : Int} (hok : Sok S) (hn : S.n + 1 ≤ 1000000000) :
    Runs X2 10 [.int .i32 n] S fun r S' => r = .agg (numC n).cells ∧ Fr S S' .nils 1 := by
  refine Runs_fn (m := 5) (by kernel_rfl) Tryd.func10 rfl (by kernel_rfl) (by kernel_rfl) ?_
  repeat (
    first
      | refine W_seq ?_
      | refine W_region ?_
      | refine WO_dst rfl rfl (by kernel_rfl) (by kernel_rfl) ?_)
  refine Ev_alloc_ rfl hok (by omega) ?_
  intro T hTn hTok hTq hTf
  have hq : T.h.get S.n = some (.cells 24 zeroC.cells false) := hTq
  repeat (
    first
      | refine W_seq ?_
      | refine WO_nil ?_
      | refine V_seq ?_
      | refine W_region ?_
      | refine WO_dst rfl rfl (by kernel_rfl) (by kernel_rfl) ?_
      | refine Ev_move rfl ?_)
  refine Ev_build (v := .agg (numC n).cells) rfl rfl ?_
  repeat (
    refine WO_no rfl rfl ?_)
  refine Ev_store rfl rfl rfl rfl (CnA.ones _) hq (by simp [CnA.cells, AV.cells]) (by omega) ?_
  intro T3 gn3 gq3 gf3
  repeat (
    first
      | refine WO_nil ?_
      | refine V_seq ?_
      | refine W_ret ?_)
  refine V_done_c rfl rfl (loadAt_c2 (c := numC n) gq3) ?_
  exact ⟨rfl, ⟨by omega, by omega, sok_upd hTok (by omega) gn3 gq3 gf3, fun c _ h => by rw [gf3 c (by omega), hTf c h]⟩⟩
theorem it_of {T : St} {b c : Nat} {cs : List CnA} {extra : List AV} (hb : T.h.get b = some (.cells 24 (cellsC cs ++ extra) true)) (hl : (cellsC cs).length + extra.length = 0 + c * 5) (hc : c < 9223372036854775808) (hs : cs.length ≤ 100000) :
    ItOK T ⟨.slice b 0 cs.length (.ex c), c, cs, extra, .slice b 0 cs.length (.ex c)⟩ := by
  have hl2 := cellsC_len cs
  refine ⟨.inl ⟨b, rfl, hb, by dsimp only; omega⟩, hc, ?_, hs⟩
  refine ⟨?_, veq_slice _ _ _ _, rfl, rfl, ?_, by dsimp only; omega⟩
  · show Nat.ble cs.length c = true
    rw [nble]; exact decide_eq_true (by omega)
  · unfold srcCells row; dsimp only; rw [hb]; dsimp only
    rw [nble, decide_eq_true (by rw [List.length_append]; omega)]
    simp only [cond_true, List.drop_zero]
    rw [List.take_append_of_le_length (by omega), List.take_of_length_le (by omega)]
theorem kept_calls [Val] (hx1 : ∀ f g, X1.ext f = some g → ExtOK Tryd.prog f g) {lv : AV} {cs : List CnA} (hlv : ∀ S, Rd S lv 5 (cellsC cs) cs.length) {vs : Array Go.Value} (hv : vrels φ0 [lv] vs.toList) (w : Go.World) (hro : ∀ g o, Val.ro g = some o → w.heap[g]? = some o) :
    Go.Calls Tryd.prog 4 vs w fun e w' => e = .returned (.bool true) ∧ Go.RowKit.Below w.heap.size w w' := by
  have hX := xok2
  have hx := ext2_ok hx1
  have hnb := rd_noblk hlv
  refine SW_true (m := 32) xok2 Tryd.func4 rfl (by kernel_rfl) (by kernel_rfl) ?_ hv w hro
  refine SW_seq ?_
  refine SW_region ?_
  refine SWO_dst hX hx rfl rfl (by kernel_rfl) (by kernel_rfl) ?_
  refine Ev_assign rfl ?_
  refine SWO_nil ?_
  refine SV_seq ?_
  refine SW_seq ?_
  refine SW_of_W hX hx (fun l' S' => S' = { h := .leaf, n := 0 } ∧ ∃ lv' cs', lk l' 0 = some lv' ∧ cs'.length ≤ 20 ∧ ∀ S, Rd S lv' 5 (cellsC cs') cs'.length) ?_ ?_
  · have hl0 := hlv { h := .leaf, n := 0 }
    repeat' (
      first
        | refine W_seq ?_
        | refine WO_nil ?_
        | refine V_seq ?_
        | refine W_region ?_
        | refine W_skip ?_
        | refine WO_dst rfl rfl (by kernel_rfl) (by kernel_rfl) ?_
        | refine Ev_len rfl rfl rfl rfl rfl hl0.len ?_
        | refine Ev_move rfl ?_
        | refine Ev_gtrN rfl rfl ?_
        | (refine W_cond rfl (fun hc => ?_) (fun hc => ?_) <;> (try dsimp only at hc) <;> try (exfalso; first | omega | exact hc rfl)))
    · refine Ev_slice_hi (hi := 20) (m := cs.length) rfl rfl rfl rfl rfl hl0 (by omega) ?_
      intro v' hv' hvb
      repeat (
        first
          | refine WO_nil ?_
          | refine WO_dst rfl rfl (by kernel_rfl) (by kernel_rfl) ?_
          | refine Ev_assign rfl ?_)
      refine V_mid ⟨rfl, v', cs.take 20, rfl, by rw [List.length_take]; omega, fun S => ?_⟩
      have hno : blkOf v' = none := by
        cases hb : blkOf v' with
        | none => rfl
        | some b => have := hvb b hb; rw [hnb] at this; cases this
      have := hv'.keep (S' := S) (fun c hc => by rw [hno] at hc; cases hc)
      refine this.eq ?_ (by rw [List.length_take]; omega)
      exact cellsC_take cs 20
    · exact V_mid ⟨rfl, lv, cs, rfl, by omega, hlv⟩
  rintro l' S' ⟨rfl, lv', cs', hl', hlen, hlv'⟩
  have hnb' := rd_noblk hlv'
  repeat (
    first
      | refine SW_seq ?_
      | refine SV_seq ?_
      | refine SW_region ?_
      | refine SWO_dst hX hx rfl rfl (by kernel_rfl) (by kernel_rfl) ?_)
  refine Ev_alloc_ rfl (by intro c x h; simp [Tr.get] at h) (by decide) ?_
  intro T hTn hTok hTq hTf
  have b0 : Bk T 0 .nils .nils 0 [] := Bk.new hTok hTq
  dsimp only at hTn
  repeat (
    first
      | refine SW_seq ?_
      | refine SWO_nil ?_
      | refine SV_seq ?_
      | refine SW_region ?_
      | refine SW_block ?_
      | refine SWO_dst hX hx rfl rfl (by kernel_rfl) (by kernel_rfl) ?_
      | refine Ev_assign rfl ?_)
  refine SW_inv (fun i : Nat => [(4, .int .i64 ((i : Nat) : Int)), (3, .ptr 0 0), (0, lv')]) (fun i T => i ≤ 2 ∧ (∃ vl vw h is, Bk T 0 vl vw h is ∧ is.length ≤ i) ∧ T.n ≤ 1 + 100 * i) (fun i => 2 - i) ?_ 0 ⟨by omega, ⟨_, _, _, _, b0, Nat.le_refl _⟩, by omega⟩ ⟨rfl, rfl, hl', trivial⟩
  rintro i T2 ⟨hi, ⟨vl, vw, h, is, hb, hisl⟩, hTn2⟩ back
  have hX' := hX
  have hx' := hx
  repeat' (
    first
      | refine SW_seq ?_
      | refine SWO_nil ?_
      | refine SV_seq ?_
      | refine SW_region ?_
      | refine SW_skip ?_
      | refine SW_block ?_
      | refine SW_exit ?_
      | refine SV_block_x rfl ?_
      | refine SV_seq_x ?_
      | refine SV_loop_x ?_
      | refine SWO_dst hX hx rfl rfl (by kernel_rfl) (by kernel_rfl) ?_
      | refine Ev_move rfl ?_
      | refine Ev_lssN rfl rfl ?_
      | refine Ev_convN rfl rfl rfl rfl rfl (by simp only [lim]; omega) ?_
      | (refine SW_cond rfl (fun hc => ?_) (fun hc => ?_) <;> (try dsimp only at hc) <;> try (exfalso; first | omega | exact hc rfl)))
  · have hlt : i < 2 := by assumption
    refine Ev_call rfl rfl ((numc2_runs (n := (i : Int)) hb.ok (by omega)).mono ?_)
    rintro _ T3 - ⟨rfl, hF3⟩
    have g3n := hF3.n
    have g3l := hF3.le
    have hX := xok1
    have hx := hx1
    repeat (
      refine SWO_dst hX hx rfl rfl (by kernel_rfl) (by kernel_rfl) ?_)
    refine Ev_call rfl rfl ((add_runs (c := numC i) hF3.ok (hlv' _) (numC_good (by omega)) (by omega) (by omega)).mono ?_)
    rintro _ T4 - ⟨hF4, r, rfl, hz, hbn⟩
    have g4n := hF4.n
    have g4l := hF4.le
    obtain ⟨p1, p2⟩ := addS_pos (i : Int) hlen
    generalize hcs2 : (addS cs' (numC (i : Int))).1 = cs2 at *
    rcases hz.own p1 with ⟨h1, _, h3⟩ | ⟨b, rfl, hblk, hcl⟩
    · omega
    have hbT3 := hbn b rfl
    have hb4 : Bk T4 0 vl vw h is := hb.far hF4.ok (fun c hc => by rw [hF4.same c (by simp [blkOf]) (by omega), hF3.same c (by simp [blkOf]) hc])
    repeat (first | refine SWO_dst hX hx rfl rfl (by kernel_rfl) (by kernel_rfl) ?_ | refine Ev_assign rfl ?_ | refine Ev_move rfl ?_ | refine Ev_extract rfl rfl ?_)
    refine SWO_nil ?_
    refine SV_cap (d := 5) rfl hblk (by kernel_rfl) (by kernel_rfl) ?_
    intro cp extra T5 k1 k2 k3 k4 k5 k6
    have hX := hX'
    have hx := hx'
    have hbT4 := hF4.ok _ _ hblk
    have hok5 : Sok T5 := sok_upd hF4.ok hbT4 k4 k5 k6
    have hlts := hb.lts
    have hb5 : Bk T5 0 vl vw h is := hb.far hok5 (fun c hc => by rw [k6 c (by omega), hF4.same c (by simp [blkOf]) (by omega), hF3.same c (by simp [blkOf]) hc])
    have hi5 := it_of k5 k3 k2 (by omega)
    repeat (
      first
        | refine SV_seq ?_
        | refine SW_region ?_
        | refine SWO_dst hX hx rfl rfl (by kernel_rfl) (by kernel_rfl) ?_
        | refine Ev_move rfl ?_)
    refine Ev_call rfl rfl ((keep_runs (i := ⟨.slice b 0 cs2.length (.ex cp), cp, cs2, extra, .slice b 0 cs2.length (.ex cp)⟩) hb5 hi5 (fun c hc => ?_) (by omega) (by omega)).mono ?_)
    · cases hc
      exact ⟨by omega, fun e => by have := hlts.2.1 _ e; omega, fun e => by have := hlts.2.2.1 _ e; omega, fun j hj e => by have := hlts.2.2.2 j hj _ e; omega⟩
    rintro _ T6 - ⟨⟨vl', vw', h', w', k, hb6, hk, _⟩, g1, g2, g3⟩
    repeat (
      first
        | refine SWO_nil ?_
        | refine SV_seq ?_
        | refine SW_region ?_
        | refine SV_block ?_
        | refine SWO_dst hX hx rfl rfl (by kernel_rfl) (by kernel_rfl) ?_
        | refine Ev_move rfl ?_
        | refine Ev_assign rfl ?_
        | refine Ev_addN rfl rfl (by simp only [lim]; omega) ?_)
    refine back (i + 1) T6 _ (by omega) ⟨by omega, ⟨_, _, _, _, hb6, by rw [List.length_drop, List.length_append, List.length_singleton]; omega⟩, by omega⟩ ⟨rfl, rfl, rfl, trivial⟩
  · refine Ev_call rfl rfl ((apart_runs hb (by omega)).mono ?_)
    rintro _ T7 - rfl
    repeat (
      first
        | refine SWO_dst hX hx rfl rfl (by kernel_rfl) (by kernel_rfl) ?_
        | refine SWO_guard_t rfl rfl rfl rfl rfl (by kernel_rfl) (by kernel_rfl) ?_
        | refine Ev_move rfl ?_)
    refine Ev_call rfl rfl (known_true2 ?_)
    repeat (
      first
        | refine SWO_nil ?_
        | refine SV_seq ?_
        | refine SW_ret ?_
        | refine SWO_dst hX hx rfl rfl (by kernel_rfl) (by kernel_rfl) ?_
        | refine Ev_assign rfl ?_
        | refine Ev_pick_t rfl rfl rfl ?_)
    exact SV_done rfl rfl rfl
end Go.Proofs.YthhbnnnokmefoaaDoor
