/- What the row leans on, part 12: texts one behind the other. No condition. -/
import Derived.Test.YtjbpegggfacojaaMg11
import Derived.KernelRfl
/- carafelaw15.LoaderPlays over the machine's runs. (NODRAWN) -/


namespace Go.Proofs.Ytjbpegggfacojaa
open GX
set_option maxHeartbeats 64000000
set_option maxRecDepth 100000
theorem all0 : All st0 [] := by
  have hh : ∀ (n : Nat) nm, hasS st0 ((n : Nat) : Int) nm = none := fun n nm => cfg0.has n nm
  have ho : ∀ (n : Nat) nm, offS st0 ((n : Nat) : Int) nm = none := fun n nm => by
    unfold offS st0
    rw [Int.toNat_natCast]
    match n with
    | 0 => rfl
    | n + 1 => rfl
  exact ⟨⟨⟨fun _ => 0, fun _ => 0, ⟨⟨fun i hi => (by cases hi), rfl, fun k v hv => (by cases hv), by decide⟩, fun n nm x hx => (by rw [hh] at hx; cases hx), fun q hq => (by cases hq)⟩⟩, fun n nm o h => (by rw [ho] at h; cases h)⟩, cfg0.par⟩
theorem off0 {m : Int} {nm : Nm} {o : Nm × Int} (h : offS st0 m nm = some o) : False := by
  unfold offS st0 at h
  match hm : m.toNat with
  | 0 => rw [hm] at h; cases h
  | n + 1 => rw [hm] at h; cases h
theorem child_off {st : LdS} {n m : Int} {nm : Nm} {o : Nm × Int} (h : offS (childS st n).2 m nm = some o) : offS st m nm = some o := by
  unfold childS at h
  by_cases h1 : isL st n
  · rw [if_pos h1] at h
    by_cases h2 : 16 ≤ st.ones.length
    · rw [if_pos h2] at h; exact h
    · rw [if_neg h2] at h
      unfold offS at h ⊢
      dsimp only at h
      by_cases hk : m.toNat < st.ones.length
      · rw [List.getElem?_append_left hk] at h; exact h
      · exfalso
        by_cases hk2 : m.toNat = st.ones.length
        · rw [hk2] at h; simp [alook] at h
        · rw [List.getElem?_eq_none (by simp; omega)] at h; cases h
  · rw [if_neg h1] at h; exact h
theorem child_len {st : LdS} {n : Int} : st.ones.length ≤ (childS st n).2.ones.length ∧ (childS st n).2.prs = st.prs := by
  unfold childS
  by_cases h1 : isL st n
  · rw [if_pos h1]
    by_cases h2 : 16 ≤ st.ones.length
    · rw [if_pos h2]; exact ⟨Nat.le_refl _, rfl⟩
    · rw [if_neg h2]; exact ⟨by simp, rfl⟩
  · rw [if_neg h1]; exact ⟨Nat.le_refl _, rfl⟩
theorem OfferS.offs {st st' : LdS} {n id : Int} {nm sup : Nm} {e : Int} (h : OfferS st n nm sup id e st') : st'.ones.length = st.ones.length ∧ st'.prs = st.prs ∧ ∀ (m : Int) nm' o, 0 ≤ m → offS st' m nm' = some o → offS st m nm' = some o ∨ (m, nm') = (n, nm) := by
  cases h with
  | arg h => exact ⟨rfl, rfl, fun m nm' o _ ho => .inl ho⟩
  | taken h o ho => exact ⟨rfl, rfl, fun m nm' o _ ho => .inl ho⟩
  | put h ho o hn =>
    refine ⟨by show (st.ones.set _ _).length = _; rw [List.length_set], rfl, fun m nm' o' hm ho' => ?_⟩
    have hj := (List.getElem?_eq_some_iff.1 hn).1
    unfold offS at ho'
    have ho' : (match (st.ones.set n.toNat { o with off := aput nm (sup, id) o.off })[m.toNat]? with | some o => alook nm' o.off | none => none) = some o' := ho'
    by_cases e : n.toNat = m.toNat
    · rw [← e, List.getElem?_set_self hj] at ho'
      dsimp only at ho'
      rw [alook_aput] at ho'
      by_cases e2 : nm' = nm
      · have := h.1.1
        exact .inr (by rw [e2, show m = n by omega])
      · rw [if_neg e2] at ho'
        refine .inl ?_
        unfold offS
        rw [← e, hn]; exact ho'
    · rw [List.getElem?_set_ne e] at ho'
      refine .inl ?_
      unfold offS
      cases hq : st.ones[m.toNat]? with
      | some q => rw [hq] at ho'; exact ho'
      | none => rw [hq] at ho'; cases ho'
theorem AgreeS.same {st st' : LdS} {a b : Int} {nm : Nm} {e : Int} (h : AgreeS st a b nm e st') : st'.ones = st.ones ∧ st'.prs.length ≤ st.prs.length + 2 ∧ (e = 0 → isL st a ∧ isL st b) := by
  cases h with
  | arg h => exact ⟨rfl, by omega, fun e => by cases e⟩
  | bound h st1 st2 rx ry vx vy h1 h2 hx hy hb =>
    have a1 := h1.ok
    have a2 := h2.ok
    exact ⟨a2.2.1.trans a1.2.1, by have := a1.2.2.1; have := a2.2.2.1; omega, fun _ => h⟩
  | ok h st1 st2 rx ry vx vy h1 h2 hx hy hb =>
    have a1 := h1.ok
    have a2 := h2.ok
    refine ⟨a2.2.1.trans a1.2.1, ?_, fun _ => h⟩
    show (st2.prs.set rx _).length ≤ _
    rw [List.length_set]
    have := a1.2.2.1; have := a2.2.2.1; omega
/-- new blocks that are nobody's -/
theorem PI.far {T U : St} {p q : Nat} {y : Lay} {z : RLay} {st : LdS} {ps : Ps} {i b b' : Nat} (h : PI T p q y z st ps i b) (hok : Sok U) (hf : ∀ c, c < T.n → U.h.get c = T.h.get c) (hb : U.n ≤ b') : PI U p q { y with tg := fun c => if c < T.n then y.tg c else 5 } { z with tg := fun c => if c < T.n then z.tg c else 5 } st ps i b' :=
  ⟨h.L.far hok hf _ (fun c hc => if_pos hc), h.R.far hok hf _ (fun c hc => if_pos hc), h.A, h.B, fun c _ => (by
    dsimp only
    by_cases hc : c < T.n
    · rw [if_pos hc, if_pos hc]; exact h.ap c hc
    · rw [if_neg hc]; exact .inl rfl), h.psr, h.few, h.s16, h.off, h.ol, h.ll, h.prs, hb⟩
theorem both0 : Both st0 [] := by
  obtain ⟨⟨rt, d, k⟩, _⟩ := all0.inv
  exact ⟨rt, d, k, fun a b nm nm' i j h1 => (by cases h1), fun a nm i v h1 => (by cases h1)⟩
structure AskA.Fine (a : AskA) : Prop where
  id : -9223372036854775808 ≤ a.id ∧ a.id < 9223372036854775808
  m : -9223372036854775808 ≤ a.m ∧ a.m < 9223372036854775808
  nm : a.nm.length < 9223372036854775808
  sup : a.sup.length < 9223372036854775808
theorem ones_mem {a b : List One} (h : Sk (bare a) (bare b)) (n : Nat) (ho : ∀ o ∈ a, o.off.length ≤ n) : ∀ o ∈ b, o.off.length ≤ n := sk_off h n ho
theorem aput_len {α : Type} {nm : Nm} {v : α} : ∀ {l : List (Nm × α)}, (aput nm v l).length ≤ l.length + 1
  | [] => Nat.le_refl _
  | p :: l => by
    unfold aput
    split
    · simp
    · have := aput_len (nm := nm) (v := v) (l := l); simp; omega
theorem offer_mem {st st' : LdS} {n id : Int} {nm sup : Nm} {e : Int} (h : OfferS st n nm sup id e st') {k : Nat} (ho : ∀ o ∈ st.ones, o.off.length ≤ k) (hl : ∀ o ∈ st.ones, o.ldd.length ≤ 2000 * k) : (∀ o ∈ st'.ones, o.off.length ≤ k + 1) ∧ ∀ o ∈ st'.ones, o.ldd.length ≤ 2000 * k := by
  cases h with
  | arg => exact ⟨fun o h => by have := ho o h; omega, hl⟩
  | taken => exact ⟨fun o h => by have := ho o h; omega, hl⟩
  | put h h1 o hn =>
    have hm := List.mem_of_getElem? hn
    refine ⟨fun o' h' => ?_, fun o' h' => ?_⟩
    · rcases List.mem_or_eq_of_mem_set (show o' ∈ st.ones.set n.toNat _ from h') with h' | h'
      · have := ho o' h'; omega
      · rw [h']; have := ho o hm; have := aput_len (nm := nm) (v := (sup, id)) (l := o.off); dsimp only; omega
    · rcases List.mem_or_eq_of_mem_set (show o' ∈ st.ones.set n.toNat _ from h') with h' | h'
      · exact hl o' h'
      · rw [h']; exact hl o hm
theorem plays_runs {S : St} {av : AV} {ks : List AskA} (hok : Sok S) (hav : ∀ S, Rd S av 6 (cellsK ks) ks.length) (hgood : ∀ a ∈ ks, a.Fine) (hn : S.n ≤ 1000) :
    Runs X1 6 [av] S fun r _ => r = .bool true := by
  refine Runs_fn (m := 177) (by kernel_rfl) Try.func6 rfl (by kernel_rfl) (by kernel_rfl) ?_
  repeat (
    first
      | refine W_seq ?_
      | refine WO_nil ?_
      | refine V_seq ?_
      | refine W_region ?_
      | refine WO_dst rfl rfl (by kernel_rfl) (by kernel_rfl) ?_
      | refine Ev_assign rfl ?_)
  refine Ev_call rfl rfl ((new_runs hok (by omega)).mono ?_)
  rintro _ T0 - ⟨p, y0, rfl, hL0, t0l, t0n, _⟩
  repeat (
    first
      | refine W_seq ?_
      | refine WO_nil ?_
      | refine V_seq ?_
      | refine W_region ?_
      | refine WO_dst rfl rfl (by kernel_rfl) (by kernel_rfl) ?_
      | refine Ev_assign rfl ?_)
  refine Ev_call rfl rfl ((rnew_runs hL0.ok (by omega)).mono ?_)
  rintro _ T1 - ⟨q, z0, rfl, hR0, t1l, t1n, hz0⟩
  have hL1 := hL0.far hR0.ok (fun c hc => (hz0 c hc).1) (fun c => if c < T0.n then y0.tg c else 5) (fun c hc => if_pos hc)
  have h0 : PI T1 p q _ z0 st0 [] 0 2000 := ⟨hL1, hR0, all0, both0, fun c hc => by
    dsimp only
    by_cases h : c < T0.n
    · exact .inr (hz0 c h).2
    · rw [if_neg h]; exact .inl rfl, fun g hg => (by cases hg), Nat.le_refl _, by decide, ⟨[], Nat.le_refl _, fun m nm o _ ho => (off0 ho).elim⟩, fun o ho => by rw [List.mem_singleton.1 ho]; exact Nat.le_refl _, fun o ho => by rw [List.mem_singleton.1 ho]; exact Nat.le_refl _, Nat.le_refl _, by omega⟩
  repeat (
    first
      | refine W_seq ?_
      | refine WO_nil ?_
      | refine V_seq ?_
      | refine W_region ?_
      | refine W_skip ?_
      | refine W_block ?_
      | refine W_cond_f rfl ?_
      | refine WO_dst rfl rfl (by kernel_rfl) (by kernel_rfl) ?_
      | refine Ev_move rfl ?_
      | refine Ev_assign rfl ?_
      | refine Ev_ptr_eql rfl rfl rfl rfl ?_)
  refine W_inv (fun i : Nat => [(5, .int .i64 ((i : Nat) : Int)), (4, .ptr q 0), (3, .ptr p 0), (0, av)]) (fun i T => i ≤ 60 ∧ ∃ y z st ps, PI T p q y z st ps i (3600000 * i + 2000)) (fun i => 61 - i) ?_ 0 ⟨Nat.zero_le _, _, z0, st0, [], h0⟩ ⟨rfl, rfl, rfl, rfl, trivial⟩
  rintro i T ⟨hi, y, z, st, ps, hI⟩ back
  repeat' (
    first
      | refine W_seq ?_
      | refine WO_nil ?_
      | refine V_seq ?_
      | refine W_region ?_
      | refine W_skip ?_
      | refine W_block ?_
      | refine W_exit ?_
      | refine V_block_x rfl ?_
      | refine V_seq_x ?_
      | refine V_loop_x ?_
      | refine W_cond_f rfl ?_
      | refine WO_dst rfl rfl (by kernel_rfl) (by kernel_rfl) ?_
      | refine WO_guard_t rfl rfl rfl rfl rfl (by kernel_rfl) (by kernel_rfl) ?_
      | refine WO_guard_f rfl rfl rfl rfl rfl rfl (by kernel_rfl) (by kernel_rfl) ?_
      | refine Ev_len rfl rfl rfl rfl rfl (hav T).len ?_
      | refine Ev_move rfl ?_
      | refine Ev_pick_t rfl rfl rfl ?_
      | refine Ev_pick_f rfl rfl rfl ?_
      | refine Ev_lssN rfl rfl ?_
      | (refine WO_guard_dt rfl rfl rfl rfl rfl (by kernel_rfl) (by kernel_rfl) (fun hg => ?_) (fun hg => ?_) <;> (try dsimp only at hg) <;> try (exfalso; first | omega | exact hg rfl))
      | (refine W_cond rfl (fun hc => ?_) (fun hc => ?_) <;> (try dsimp only at hc) <;> try (exfalso; first | omega | exact hc rfl)))
  · have hlt : i < ks.length := by assumption
    have hi60 : i < 60 := by assumption
    obtain ⟨a, hga⟩ : ∃ a, ks[i]? = some a := ⟨_, List.getElem?_eq_getElem hlt⟩
    have hag := hgood a (List.mem_of_getElem? hga)
    have hsl := hag.sup
    obtain ⟨fa1, fa2⟩ := flat_at (f := AskA.cells) (sz := 6) (fun _ => rfl) ks i a hga
    have hIn := hI.n
    refine Ev_indexAddr_rd (i := i) rfl rfl rfl rfl rfl (hav T) hlt ?_
    intro a1 ha1
    repeat (
      refine WO_dst rfl rfl (by kernel_rfl) (by kernel_rfl) ?_)
    refine Ev_load_pt_agg (ds := a.cells) rfl rfl rfl ha1 fa2 fa1 (by simp [veqs, veq_int, veq_str]) ?_
    repeat (
      refine WO_dst rfl rfl (by kernel_rfl) (by kernel_rfl) ?_)
    refine Ev_alloc_ rfl hI.L.ok (by omega) ?_
    intro T1 n1 ok1 q1 f1
    repeat (
      refine WO_no rfl rfl ?_)
    refine Ev_store rfl rfl rfl rfl rfl q1 (by show 0 + 6 ≤ 6; decide) (by omega) ?_
    intro T2 n2 q2 f2
    have ok2 : Sok T2 := sok_upd ok1 (by omega) n2 q2 f2
    have f02 : ∀ c, c < T.n → T2.h.get c = T.h.get c := fun c hc => by rw [f2 c (by omega), f1 c hc]
    have q2 : T2.h.get T.n = some (.cells 41 a.cells false) := q2
    repeat (
      first
        | refine W_seq ?_
        | refine WO_nil ?_
        | refine V_seq ?_
        | refine W_region ?_
        | refine WO_dst rfl rfl (by kernel_rfl) (by kernel_rfl) ?_
        | refine Ev_load rfl rfl rfl q2 rfl (veq_int _ _) ?_
        | refine Ev_load rfl rfl rfl q2 rfl (veq_str _) ?_
        | refine Ev_fieldAddr rfl rfl rfl rfl rfl rfl ?_)
    refine Ev_call rfl rfl ((any_name (n := a.id) ok2 hag.nm hag.id (by omega)).mono ?_)
    rintro _ T3 - ⟨⟨nm, rfl, hnm⟩, ok3, le3, n3, f3⟩
    have q3 : T3.h.get T.n = some (.cells 41 a.cells false) := by rw [f3 _ (by omega)]; exact q2
    have f03 : ∀ c, c < T.n → T3.h.get c = T.h.get c := fun c hc => by rw [f3 c (by omega), f02 c hc]
    repeat (
      first
        | refine W_seq ?_
        | refine WO_nil ?_
        | refine V_seq ?_
        | refine W_region ?_
        | refine WO_dst rfl rfl (by kernel_rfl) (by kernel_rfl) ?_
        | refine Ev_load rfl rfl rfl q3 rfl (veq_str _) ?_
        | refine Ev_move rfl ?_
        | refine Ev_assign rfl ?_
        | refine Ev_sneq rfl rfl ?_
        | refine Ev_fieldAddr rfl rfl rfl rfl rfl rfl ?_)
    refine W_cut (fun l' U => ∃ sup : Nm, sup.length < 9223372036854775808 ∧ Sok U ∧ T3.n ≤ U.n ∧ U.n ≤ T3.n + 1 ∧ (∀ c, c < T3.n → U.h.get c = T3.h.get c) ∧ sub [(0, av), (3, .ptr p 0), (4, .ptr q 0), (5, .int .i64 ((i : Nat) : Int)), (6, .ptr T.n 0), (7, .str nm), (8, .str sup)] l') ?_ ?_
    · repeat' (
        first
          | refine W_region ?_
          | refine W_skip ?_
          | refine WO_dst rfl rfl (by kernel_rfl) (by kernel_rfl) ?_
          | refine Ev_load rfl rfl rfl q3 rfl (veq_int _ _) ?_
          | refine Ev_move rfl ?_
          | refine Ev_fieldAddr rfl rfl rfl rfl rfl rfl ?_
          | (refine W_cond rfl (fun hc => ?_) (fun hc => ?_) <;> (try dsimp only at hc) <;> try (exfalso; first | omega | exact hc rfl)))
      · refine Ev_call rfl rfl ((any_name (n := a.m) ok3 hag.sup hag.m (by omega)).mono ?_)
        rintro _ T4 - ⟨⟨sup, rfl, hsup⟩, ok4, le4, n4, f4⟩
        repeat (
          first
            | refine WO_nil ?_
            | refine WO_dst rfl rfl (by kernel_rfl) (by kernel_rfl) ?_
            | refine Ev_assign rfl ?_)
        exact V_mid ⟨sup, hsup, ok4, le4, n4, f4, rfl, rfl, rfl, rfl, rfl, rfl, rfl, trivial⟩
      · exact V_mid ⟨a.sup, hsl, ok3, Nat.le_refl _, by omega, fun _ _ => rfl, rfl, rfl, rfl, rfl, rfl, rfl, rfl, trivial⟩
    rintro l' T4 ⟨sup, hsup, ok4, le4, n4, f4, hsub⟩
    refine V_weak hsub ?_
    have q4 : T4.h.get T.n = some (.cells 41 a.cells false) := by rw [f4 _ (by omega)]; exact q3
    have hI4 := hI.far (b' := 3600000 * i + 2010) ok4 (fun c hc => by rw [f4 c (by omega), f03 c hc]) (by omega)
    obtain ⟨y4, hy4⟩ : ∃ y4, y4 = { y with tg := fun c => if c < T.n then y.tg c else 5 } := ⟨_, rfl⟩
    obtain ⟨z4, hz4⟩ : ∃ z4, z4 = { z with tg := fun c => if c < T.n then z.tg c else 5 } := ⟨_, rfl⟩
    rw [← hy4, ← hz4] at hI4
    have ty : y4.tg T.n = 5 := by rw [hy4]; exact if_neg (by omega)
    have tz : z4.tg T.n = 5 := by rw [hz4]; exact if_neg (by omega)
    have hsm := hI4.small
    obtain ⟨K, hKl, hK⟩ := hI4.off
    have hpr := hI4.prs
    have hI4n := hI4.n
    have hol6 : ∀ o ∈ st.ones, o.off.length ≤ 1000000 := fun o ho => by have := hI4.ol o ho; omega
    have hll6 : ∀ o ∈ st.ones, o.ldd.length ≤ 1000000 := fun o ho => by have := hI4.ll o ho; omega
    have hfew := hI4.few
    have hcl := costR_le (show K.length ≤ 60 by omega)
    repeat (
      first
        | refine W_seq ?_
        | refine WO_nil ?_
        | refine V_seq ?_
        | refine W_region ?_
        | refine WO_dst rfl rfl (by kernel_rfl) (by kernel_rfl) ?_
        | refine Ev_load rfl rfl rfl q4 rfl (veq_int _ _) ?_
        | refine Ev_fieldAddr rfl rfl rfl rfl rfl rfl ?_)
    refine W_cut (fun l' U => ∃ y' z' st' ps', PI U p q y' z' st' ps' (i + 1) (3600000 * i + 3500000) ∧ sub [(0, av), (3, .ptr p 0), (4, .ptr q 0), (5, .int .i64 ((i : Nat) : Int)), (7, .str nm)] l') ?_ ?_
    · repeat' (
        first
          | refine W_seq ?_
          | refine WO_nil ?_
          | refine V_seq ?_
          | refine W_region ?_
          | refine W_skip ?_
          | refine W_block ?_
          | refine V_block ?_
          | refine WO_dst rfl rfl (by kernel_rfl) (by kernel_rfl) ?_
          | refine Ev_load rfl rfl rfl q4 rfl (veq_int _ _) ?_
          | refine Ev_move rfl ?_
          | refine Ev_assign rfl ?_
          | refine Ev_eql rfl rfl ?_
          | refine Ev_fieldAddr rfl rfl rfl rfl rfl rfl ?_
          | (refine W_cond rfl (fun hc => ?_) (fun hc => ?_) <;> (try dsimp only at hc) <;> try (exfalso; first | omega | exact hc rfl)))
      · refine Ev_call rfl rfl ((Child_runs (n := a.n) hI4.L hsm (by omega)).mono ?_)
        rintro _ T5 - ⟨rfl, y5, hL5, fo5⟩
        have g5 := fo5.n
        have g5l := fo5.le
        obtain ⟨e1, e2, e3, e4, e5⟩ := child_law (st := st) (n := a.n)
        rw [e1]
        have q5 : T5.h.get T.n = some (.cells 41 a.cells false) := by rw [fo5.fo _ (by omega) ty]; exact q4
        obtain ⟨z5, hR5, ap5, tz5⟩ := joinL hL5 fo5 hI4.R hI4.ap
        repeat (
          first
            | refine W_seq ?_
            | refine WO_nil ?_
            | refine V_seq ?_
            | refine W_region ?_
            | refine WO_dst rfl rfl (by kernel_rfl) (by kernel_rfl) ?_
            | refine Ev_load rfl rfl rfl q5 rfl (veq_int _ _) ?_
            | refine Ev_move rfl ?_
            | refine Ev_assign rfl ?_
            | refine Ev_extract rfl rfl ?_
            | refine Ev_fieldAddr rfl rfl rfl rfl rfl rfl ?_)
        refine Ev_call rfl rfl ((rChild_runs (n := a.n) hR5 hsm (by omega)).mono ?_)
        rintro _ T6 - ⟨rfl, z6, hR6, ft6⟩
        have g6 := ft6.n
        have g6l := ft6.le
        obtain ⟨y6, hL6, ap6, ty6⟩ := joinR hR6 ft6 hL5 ap5
        rw [← e2] at hR6
        obtain ⟨hA6, hE6⟩ := child_keep (n := a.n) hI4.A
        obtain ⟨c1, c2⟩ := child_len2 (n := a.n) hI4.s16
        repeat' (
          first
            | refine W_seq ?_
            | refine WO_nil ?_
            | refine V_seq ?_
            | refine W_region ?_
            | refine W_skip ?_
            | refine V_block ?_
            | refine WO_dst rfl rfl (by kernel_rfl) (by kernel_rfl) ?_
            | refine WO_guard_t rfl rfl rfl rfl rfl (by kernel_rfl) (by kernel_rfl) ?_
            | refine Ev_move rfl ?_
            | refine Ev_assign rfl ?_
            | refine Ev_extract rfl rfl ?_
            | refine Ev_pick_f rfl rfl rfl ?_
            | refine Ev_neq rfl rfl ?_
            | (refine WO_guard_df rfl rfl rfl rfl rfl (by kernel_rfl) (by kernel_rfl) (fun hg => ?_) (fun hg => ?_) <;> (try dsimp only at hg) <;> try (exfalso; first | omega | exact hg rfl))
            | (refine W_cond rfl (fun hc => ?_) (fun hc => ?_) <;> (try dsimp only at hc) <;> try (exfalso; first | omega | exact hc rfl)))
        refine V_mid ⟨y6, z6, _, ps, ⟨hL6, hR6, hA6, hI4.B.same e3 e4 e5 hE6 hA6, ap6, fun g hg => ?_, by omega, by rw [e2]; exact c1, ⟨K, by omega, fun m nm' o hm ho => hK m nm' o hm (child_off ho)⟩, fun o ho => ?_, fun o ho => ?_, by rw [e4]; omega, by omega⟩, rfl, rfl, rfl, rfl, rfl, trivial⟩
        · have := hI4.psr g hg; rw [e2]; omega
        · rw [e2] at ho
          rcases child_mem ho with h | ⟨h, _⟩
          · have := hI4.ol o h; omega
          · rw [h]; exact Nat.zero_le _
        · rw [e2] at ho
          rcases child_mem ho with h | ⟨_, h⟩
          · have := hI4.ll o h; omega
          · rw [h]; exact Nat.zero_le _
      · have hD : ∀ f ∈ [(⟨T.n, .cells 41 a.cells false, none⟩ : Fct)], T4.h.get f.id = some f.x := by
          intro f hf; rw [List.mem_singleton] at hf; subst hf; exact q4
        refine W_drawnZ 15 [⟨T.n, .cells 41 a.cells false, none⟩] ?_ (by kernel_rfl) ?_
        · intro f hf; rw [List.mem_singleton] at hf; subst hf; exact ⟨rfl, by dsimp only; omega, q4⟩
        repeat (
          first
            | refine WZ_pa rfl rfl (by kernel_rfl) (by kernel_rfl) rfl ?_
            | refine Ev_move rfl ?_
            | refine Ev_fieldAddr rfl rfl rfl rfl rfl rfl ?_)
        refine WZ_rf (by kernel_rfl) rfl rfl (by kernel_rfl) (by kernel_rfl) hD (FPD_load (p := .ptr T.n (0 + 1)) (v := .int .i64 a.n) rfl rfl rfl (pt_of q4) rfl (fun b hb => by cases hb; exact ⟨_, List.mem_cons_self .., rfl, q4, fun j hj => by cases hj⟩)) (veq_int _ _) ?_
        repeat (
          first
            | refine WZ_pa rfl rfl (by kernel_rfl) (by kernel_rfl) rfl ?_
            | refine Ev_move rfl ?_
            | refine Ev_fieldAddr rfl rfl rfl rfl rfl rfl ?_)
        refine WZ_rf (by kernel_rfl) rfl rfl (by kernel_rfl) (by kernel_rfl) hD (FPD_load (p := .ptr T.n (0 + 3)) (v := .int .i64 a.id) rfl rfl rfl (pt_of q4) rfl (fun b hb => by cases hb; exact ⟨_, List.mem_cons_self .., rfl, q4, fun j hj => by cases hj⟩)) (veq_int _ _) ?_
        repeat (
          refine W_seq ?_)
        refine WZ_ld rfl rfl (by kernel_rfl) (by kernel_rfl) (fun _ _ => rfl) ?_
        refine Ev_call rfl rfl ((Offer_runs (n := a.n) (nm := nm) (sup := sup) (id := a.id) hI4.L hsm hnm hsup (by omega)).mono ?_)
        rintro _ T5 - ⟨e5, st5, y5, rfl, ho5, hL5, fo5⟩
        have g5 := fo5.n
        have g5l := fo5.le
        have q5 : T5.h.get T.n = some (.cells 41 a.cells false) := by rw [fo5.fo _ (by omega) ty]; exact q4
        obtain ⟨z5, hR5, ap5, tz5⟩ := joinL hL5 fo5 hI4.R hI4.ap
        have hD5 : ∀ f ∈ [(⟨T.n, .cells 41 a.cells false, none⟩ : Fct)], T5.h.get f.id = some f.x := by
          intro f hf; rw [List.mem_singleton] at hf; subst hf; exact q5
        refine ⟨fun _ f hf => hD5 f (by first | exact hf | (rw [List.append_nil] at hf; exact hf)), [], by simp, ?_⟩
        repeat (
          first
            | refine WZ_pa rfl rfl (by kernel_rfl) (by kernel_rfl) rfl ?_
            | refine Ev_move rfl ?_
            | refine Ev_fieldAddr rfl rfl rfl rfl rfl rfl ?_)
        refine WZ_rf (by kernel_rfl) rfl rfl (by kernel_rfl) (by kernel_rfl) hD5 (FPD_load (p := .ptr T.n (0 + 1)) (v := .int .i64 a.n) rfl rfl rfl (pt_of q5) rfl (fun b hb => by cases hb; exact ⟨_, List.mem_cons_self .., rfl, q5, fun j hj => by cases hj⟩)) (veq_int _ _) ?_
        repeat (
          first
            | refine WZ_pa rfl rfl (by kernel_rfl) (by kernel_rfl) rfl ?_
            | refine Ev_move rfl ?_
            | refine Ev_fieldAddr rfl rfl rfl rfl rfl rfl ?_)
        refine WZ_rf (by kernel_rfl) rfl rfl (by kernel_rfl) (by kernel_rfl) hD5 (FPD_load (p := .ptr T.n (0 + 3)) (v := .int .i64 a.id) rfl rfl rfl (pt_of q5) rfl (fun b hb => by cases hb; exact ⟨_, List.mem_cons_self .., rfl, q5, fun j hj => by cases hj⟩)) (veq_int _ _) ?_
        repeat (
          refine W_seq ?_)
        refine WZ_ld rfl rfl (by kernel_rfl) (by kernel_rfl) (fun _ _ => rfl) ?_
        refine Ev_call rfl rfl ((rOffer_runs (n := a.n) (nm := nm) (sup := sup) (id := a.id) hR5 hol6 hnm hsup (by omega)).mono ?_)
        rintro _ T6 - ⟨e6, rs6, z6, rfl, ho6, hR6, ft6⟩
        have g6 := ft6.n
        have g6l := ft6.le
        obtain ⟨y6, hL6, ap6, ty6⟩ := joinR hR6 ft6 hL5 ap5
        obtain ⟨d1, d2, d3, d4, d5⟩ := offer_law ho5 ho6
        subst d1
        rw [← d2] at hR6
        obtain ⟨hA6, hE6⟩ := ho5.keep hI4.A
        obtain ⟨o1, o2, o3⟩ := ho5.offs
        obtain ⟨m1, m2⟩ := offer_mem ho5 hI4.ol hI4.ll
        have hs16 := hI4.s16
        refine ⟨fun h => absurd h (by decide), [], by simp, ?_⟩
        repeat (
          first
            | refine WZ_nil ?_
            | refine WZ_pa rfl rfl (by kernel_rfl) (by kernel_rfl) rfl ?_
            | refine V_seq ?_
            | refine Ev_neq rfl rfl ?_)
        repeat' (
          first
            | refine W_skip ?_
            | refine V_block ?_
            | (refine W_cond rfl (fun hc => ?_) (fun hc => ?_) <;> (try dsimp only at hc) <;> try (exfalso; first | omega | exact hc rfl)))
        refine V_mid ⟨y6, z6, st5, ps, ⟨hL6, hR6, hA6, hI4.B.same d3 d4 d5 hE6 hA6, ap6, fun g hg => by have := hI4.psr g hg; rw [o1]; omega, by omega, by omega, ⟨(a.n, nm) :: K, by simp; omega, fun m nm' o hm ho => ?_⟩, m1, fun o ho => by have := m2 o ho; omega, by rw [d4]; omega, by omega⟩, rfl, rfl, rfl, rfl, rfl, trivial⟩
        rcases o3 m nm' o hm ho with hh | hh
        · exact List.mem_cons_of_mem _ (hK m nm' o hm hh)
        · rw [hh]; exact List.mem_cons_self ..
      · refine Ev_call rfl rfl ((Load_runs (nm := nm) (n := a.n) (K := K) hI4.L hI4.good hI4.A.par hK (by omega) (by omega)).mono ?_)
        rintro _ T5 - ⟨x, e5, st5, y5, rfl, hl5, hg5, hsk5, hpr5, hL5, fo5⟩
        have g5 := fo5.n
        have g5l := fo5.le
        have q5 : T5.h.get T.n = some (.cells 41 a.cells false) := by rw [fo5.fo _ (by omega) ty]; exact q4
        obtain ⟨z5, hR5, ap5, tz5⟩ := joinL hL5 fo5 hI4.R hI4.ap
        repeat (
          first
            | refine W_seq ?_
            | refine WO_nil ?_
            | refine V_seq ?_
            | refine W_region ?_
            | refine WO_dst rfl rfl (by kernel_rfl) (by kernel_rfl) ?_
            | refine Ev_load rfl rfl rfl q5 rfl (veq_int _ _) ?_
            | refine Ev_move rfl ?_
            | refine Ev_assign rfl ?_
            | refine Ev_extract rfl rfl ?_
            | refine Ev_fieldAddr rfl rfl rfl rfl rfl rfl ?_)
        refine Ev_call rfl rfl ((rLoad_runs (nm := nm) (n := a.n) (K := K) (L := 2000 * i) hR5 hI4.A.par hI4.psr hI4.s16 (by omega) hol6 hI4.ll (by omega) (by omega) hK (by omega)).mono ?_)
        rintro _ T6 - ⟨x2, e6, ones6, z6, rfl, hl6, hsk6, hll6', hR6, ft6⟩
        have g6 := ft6.n
        have g6l := ft6.le
        obtain ⟨y6, hL6, ap6, ty6⟩ := joinR hR6 ft6 hL5 ap5
        obtain ⟨d1, d2, d3, d4⟩ := load_law hl5 hl6 hI4.A hI4.B
        subst d1 d2
        rw [← d3] at hR6 hsk6 hll6'
        obtain ⟨hA6, hE6, _, _⟩ := hl5.keep hI4.A
        have hlen : st5.ones.length = st.ones.length := hsk5.1
        repeat' (
          first
            | refine W_seq ?_
            | refine WO_nil ?_
            | refine V_seq ?_
            | refine W_region ?_
            | refine W_skip ?_
            | refine V_block ?_
            | refine WO_dst rfl rfl (by kernel_rfl) (by kernel_rfl) ?_
            | refine WO_guard_t rfl rfl rfl rfl rfl (by kernel_rfl) (by kernel_rfl) ?_
            | refine Ev_move rfl ?_
            | refine Ev_assign rfl ?_
            | refine Ev_extract rfl rfl ?_
            | refine Ev_pick_f rfl rfl rfl ?_
            | refine Ev_neq rfl rfl ?_
            | (refine WO_guard_df rfl rfl rfl rfl rfl (by kernel_rfl) (by kernel_rfl) (fun hg => ?_) (fun hg => ?_) <;> (try dsimp only at hg) <;> try (exfalso; first | omega | exact hg rfl))
            | (refine W_cond rfl (fun hc => ?_) (fun hc => ?_) <;> (try dsimp only at hc) <;> try (exfalso; first | omega | exact hc rfl)))
        refine V_mid ⟨y6, z6, st5, ps, ⟨hL6, hR6, hA6, d4, ap6, fun g hg => by have := hI4.psr g hg; omega, by omega, by have := hI4.s16; omega, ⟨K, by omega, fun m nm' o hm ho => hK m nm' o hm (by rw [← hsk5.offS]; exact ho)⟩, fun o ho => by have := sk_off hsk6 i hI4.ol o ho; omega, fun o ho => by have := hll6' o ho; omega, by omega, by omega⟩, rfl, rfl, rfl, rfl, rfl, trivial⟩
      · have hD : ∀ f ∈ [(⟨T.n, .cells 41 a.cells false, none⟩ : Fct)], T4.h.get f.id = some f.x := by
          intro f hf; rw [List.mem_singleton] at hf; subst hf; exact q4
        refine W_drawnZ 13 [⟨T.n, .cells 41 a.cells false, none⟩] ?_ (by kernel_rfl) ?_
        · intro f hf; rw [List.mem_singleton] at hf; subst hf; exact ⟨rfl, by dsimp only; omega, q4⟩
        repeat (
          first
            | refine WZ_pa rfl rfl (by kernel_rfl) (by kernel_rfl) rfl ?_
            | refine Ev_move rfl ?_
            | refine Ev_fieldAddr rfl rfl rfl rfl rfl rfl ?_)
        refine WZ_rf (by kernel_rfl) rfl rfl (by kernel_rfl) (by kernel_rfl) hD (FPD_load (p := .ptr T.n (0 + 1)) (v := .int .i64 a.n) rfl rfl rfl (pt_of q4) rfl (fun b hb => by cases hb; exact ⟨_, List.mem_cons_self .., rfl, q4, fun j hj => by cases hj⟩)) (veq_int _ _) ?_
        repeat (
          first
            | refine WZ_pa rfl rfl (by kernel_rfl) (by kernel_rfl) rfl ?_
            | refine Ev_fieldAddr rfl rfl rfl rfl rfl rfl ?_)
        refine WZ_rf (by kernel_rfl) rfl rfl (by kernel_rfl) (by kernel_rfl) hD (FPD_load (p := .ptr T.n (0 + 2)) (v := .int .i64 a.m) rfl rfl rfl (pt_of q4) rfl (fun b hb => by cases hb; exact ⟨_, List.mem_cons_self .., rfl, q4, fun j hj => by cases hj⟩)) (veq_int _ _) ?_
        repeat (
          first
            | refine WZ_pa rfl rfl (by kernel_rfl) (by kernel_rfl) rfl ?_
            | refine Ev_move rfl ?_)
        refine WZ_ld rfl rfl (by kernel_rfl) (by kernel_rfl) (fun _ _ => rfl) ?_
        refine Ev_call rfl rfl ((Agree_runs (a := a.n) (b := a.m) (nm := nm) hI4.L hI4.good (by omega) (by omega)).mono ?_)
        rintro _ T5 - ⟨e5, st5, y5, rfl, hag5, hL5, fo5⟩
        have g5 := fo5.n
        have g5l := fo5.le
        have q5 : T5.h.get T.n = some (.cells 41 a.cells false) := by rw [fo5.fo _ (by omega) ty]; exact q4
        obtain ⟨z5, hR5, ap5, tz5⟩ := joinL hL5 fo5 hI4.R hI4.ap
        have hD5 : ∀ f ∈ [(⟨T.n, .cells 41 a.cells false, none⟩ : Fct)], T5.h.get f.id = some f.x := by
          intro f hf; rw [List.mem_singleton] at hf; subst hf; exact q5
        refine ⟨fun _ f hf => hD5 f (by first | exact hf | (rw [List.append_nil] at hf; exact hf)), [], by simp, ?_⟩
        repeat (
          first
            | refine WZ_pa rfl rfl (by kernel_rfl) (by kernel_rfl) rfl ?_
            | refine Ev_move rfl ?_
            | refine Ev_fieldAddr rfl rfl rfl rfl rfl rfl ?_)
        refine WZ_rf (by kernel_rfl) rfl rfl (by kernel_rfl) (by kernel_rfl) hD5 (FPD_load (p := .ptr T.n (0 + 1)) (v := .int .i64 a.n) rfl rfl rfl (pt_of q5) rfl (fun b hb => by cases hb; exact ⟨_, List.mem_cons_self .., rfl, q5, fun j hj => by cases hj⟩)) (veq_int _ _) ?_
        repeat (
          first
            | refine WZ_pa rfl rfl (by kernel_rfl) (by kernel_rfl) rfl ?_
            | refine Ev_fieldAddr rfl rfl rfl rfl rfl rfl ?_)
        refine WZ_rf (by kernel_rfl) rfl rfl (by kernel_rfl) (by kernel_rfl) hD5 (FPD_load (p := .ptr T.n (0 + 2)) (v := .int .i64 a.m) rfl rfl rfl (pt_of q5) rfl (fun b hb => by cases hb; exact ⟨_, List.mem_cons_self .., rfl, q5, fun j hj => by cases hj⟩)) (veq_int _ _) ?_
        repeat (
          first
            | refine WZ_pa rfl rfl (by kernel_rfl) (by kernel_rfl) rfl ?_
            | refine Ev_move rfl ?_)
        refine WZ_ld rfl rfl (by kernel_rfl) (by kernel_rfl) (fun _ _ => rfl) ?_
        refine Ev_call rfl rfl ((Agr_runs (a := a.n) (b := a.m) (nm := nm) hR5 hI4.psr hI4.s16 (by omega) hll6 (by omega)).mono ?_)
        rintro _ T6 - ⟨e6, ps6, z6, rfl, hag6, hR6, ft6⟩
        have g6 := ft6.n
        have g6l := ft6.le
        obtain ⟨y6, hL6, ap6, ty6⟩ := joinR hR6 ft6 hL5 ap5
        obtain ⟨d1, d2, d3, d4, d5, d6⟩ := RAgree.law hag5 hag6 rfl hI4.A hI4.B
        have d2 : st5.ones = st.ones := d2
        subst d1
        obtain ⟨s1, s2, s3⟩ := hag5.same
        rw [← d2] at hR6
        refine ⟨fun h => absurd h (by decide), [], by simp, ?_⟩
        repeat (
          first
            | refine WZ_nil ?_
            | refine WZ_pa rfl rfl (by kernel_rfl) (by kernel_rfl) rfl ?_
            | refine V_seq ?_
            | refine Ev_neq rfl rfl ?_)
        repeat' (
          first
            | refine W_skip ?_
            | refine V_block ?_
            | (refine W_cond rfl (fun hc => ?_) (fun hc => ?_) <;> (try dsimp only at hc) <;> try (exfalso; first | omega | exact hc rfl)))
        have hps6 : (∀ g ∈ ps6, g.1 < st5.ones.length ∧ g.2.1 < st5.ones.length) ∧ ps6.length ≤ i + 1 := by
          by_cases e0 : e5 = 0
          · obtain ⟨k1, k2, k3⟩ := d5 e0
            rw [k3]
            refine ⟨fun g hg => ?_, by rw [List.length_append, List.length_singleton]; omega⟩
            rcases List.mem_append.1 hg with hg | hg
            · have := hI4.psr g hg; rw [d2]; exact this
            · rw [List.mem_singleton.1 hg, d2]
              unfold isL at k1 k2
              dsimp only
              omega
          · rw [d6 e0]
            exact ⟨fun g hg => by have := hI4.psr g hg; rw [d2]; exact this, by omega⟩
        refine V_mid ⟨y6, z6, st5, ps6, ⟨hL6, hR6, d3, d4, ap6, hps6.1, hps6.2, by rw [d2]; exact hI4.s16, ⟨K, by omega, fun m nm' o hm ho => hK m nm' o hm (by rw [← offS_ones d2]; exact ho)⟩, fun o ho => by rw [d2] at ho; have := hI4.ol o ho; omega, fun o ho => by rw [d2] at ho; have := hI4.ll o ho; omega, by omega, by omega⟩, rfl, rfl, rfl, rfl, rfl, trivial⟩
      · exact V_mid ⟨y4, z4, st, ps, { hI4 with few := by omega, off := ⟨K, by omega, hK⟩, ol := fun o ho => by have := hI4.ol o ho; omega, ll := fun o ho => by have := hI4.ll o ho; omega, prs := by omega, n := by omega }, rfl, rfl, rfl, rfl, rfl, trivial⟩
    · rintro l' U ⟨y', z', st', ps', hU, hsub⟩
      refine V_weak hsub ?_
      repeat (
        first
          | refine W_seq ?_
          | refine WO_nil ?_
          | refine V_seq ?_
          | refine W_region ?_
          | refine W_block ?_
          | refine WO_dst rfl rfl (by kernel_rfl) (by kernel_rfl) ?_
          | refine Ev_assign rfl ?_)
      refine W_inv (fun k : Nat => [(19, .int .i64 (((k : Nat) : Int) - 1)), (0, av), (3, .ptr p 0), (4, .ptr q 0), (5, .int .i64 ((i : Nat) : Int)), (7, .str nm)]) (fun k V => k ≤ 6 ∧ ∃ y2 z2, PI V p q y2 z2 st' ps' (i + 1) (3600000 * i + 3500000 + 10 * k)) (fun k => 7 - k) ?_ 0 ⟨Nat.zero_le _, y', z', hU⟩ ⟨rfl, rfl, rfl, rfl, rfl, rfl, trivial⟩
      rintro k V ⟨hk, y2, z2, hV⟩ back2
      have hVn := hV.n
      repeat' (
        first
          | refine W_seq ?_
          | refine WO_nil ?_
          | refine V_seq ?_
          | refine W_region ?_
          | refine W_skip ?_
          | refine W_block ?_
          | refine W_exit ?_
          | refine V_block ?_
          | refine V_block_x rfl ?_
          | refine V_seq_x ?_
          | refine V_loop_x ?_
          | refine WO_dst rfl rfl (by kernel_rfl) (by kernel_rfl) ?_
          | refine Ev_move rfl ?_
          | refine Ev_assign rfl ?_
          | refine Ev_lss rfl rfl ?_
          | refine Ev_addN rfl rfl (by simp only [lim]; omega) ?_
          | (refine W_cond rfl (fun hc => ?_) (fun hc => ?_) <;> (try dsimp only at hc) <;> try (exfalso; first | omega | exact hc rfl)))
      · have hk6 : k < 6 := by omega
        refine Ev_call rfl rfl ((Loaded_runs (n := ((k : Nat) : Int) - 1) (nm := nm) hV.L hV.small (by omega)).mono ?_)
        rintro _ V1 - ⟨rfl, y3, hL3, fo3⟩
        have g3 := fo3.n
        have g3l := fo3.le
        obtain ⟨z3, hR3, ap3, tz3⟩ := joinL hL3 fo3 hV.R hV.ap
        repeat (
          first
            | refine W_seq ?_
            | refine WO_nil ?_
            | refine V_seq ?_
            | refine W_region ?_
            | refine WO_dst rfl rfl (by kernel_rfl) (by kernel_rfl) ?_
            | refine Ev_move rfl ?_
            | refine Ev_assign rfl ?_
            | refine Ev_extract rfl rfl ?_)
        refine Ev_call rfl rfl ((rLoaded_runs (n := ((k : Nat) : Int) - 1) (nm := nm) hR3 (fun o ho => by have := hV.ll o ho; omega) (by omega)).mono ?_)
        rintro _ V2 - ⟨rfl, ok4, le4, n4, f4⟩
        have hP : PI V1 p q y3 z3 st' ps' (i + 1) (3600000 * i + 3500000 + 10 * k + 1) := { hV with L := hL3, R := hR3, ap := ap3, n := by omega }
        have hP2 := hP.far (b' := 3600000 * i + 3500000 + 10 * (k + 1)) ok4 f4 (by omega)
        rw [show (if isL st' (((k : Nat) : Int) - 1) then hasS st' (((k : Nat) : Int) - 1) nm else none) = hasN st'.ones (((k : Nat) : Int) - 1) nm from rfl]
        repeat' (
          first
            | refine W_seq ?_
            | refine WO_nil ?_
            | refine V_seq ?_
            | refine W_region ?_
            | refine WO_dst rfl rfl (by kernel_rfl) (by kernel_rfl) ?_
            | refine WO_guard_t rfl rfl rfl rfl rfl (by kernel_rfl) (by kernel_rfl) ?_
            | refine Ev_bneq rfl rfl rfl rfl ?_
            | refine Ev_move rfl ?_
            | refine Ev_assign rfl ?_
            | refine Ev_extract rfl rfl ?_
            | refine Ev_pick_f rfl rfl rfl ?_
            | refine Ev_neq rfl rfl ?_
            | (refine WO_guard_df rfl rfl rfl rfl rfl (by kernel_rfl) (by kernel_rfl) (fun hg => ?_) (fun hg => ?_) <;> (try dsimp only at hg) <;> try (exfalso; first | omega | exact hg rfl)))
        rw [show (!((hasN st'.ones (((k : Nat) : Int) - 1) nm).isSome == (hasN st'.ones (((k : Nat) : Int) - 1) nm).isSome)) = false by simp]
        repeat' (
          first
            | refine WO_nil ?_
            | refine V_seq ?_
            | refine W_region ?_
            | refine W_skip ?_
            | refine V_block ?_
            | refine W_cond_f rfl ?_
            | refine WO_dst rfl rfl (by kernel_rfl) (by kernel_rfl) ?_
            | refine Ev_move rfl ?_
            | refine Ev_assign rfl ?_
            | refine Ev_add rfl rfl (by simp only [inR]; omega) ?_)
        exact back2 (k + 1) V2 _ (by omega) ⟨by omega, _, _, hP2⟩ ⟨by show some (AV.int .i64 (((k : Nat) : Int) - 1 + 1)) = some (AV.int .i64 (((k + 1 : Nat) : Int) - 1)); congr 2; omega, rfl, rfl, rfl, rfl, rfl, trivial⟩
      · exact back (i + 1) V _ (by omega) ⟨by omega, y2, z2, st', ps', { hV with n := by omega }⟩ ⟨rfl, rfl, rfl, rfl, trivial⟩
  all_goals
    refine Ev_call rfl rfl (known_true ?_)
    repeat (
      first
        | refine WO_nil ?_
        | refine V_seq ?_
        | refine W_ret ?_
        | refine WO_dst rfl rfl (by kernel_rfl) (by kernel_rfl) ?_
        | refine Ev_assign rfl ?_)
    exact V_done rfl rfl rfl
end Go.Proofs.Ytjbpegggfacojaa
/- carafelaw15.LoaderPlays: calls that come in, with their texts. -/




namespace Go.Proofs.Ytjbpegggfacojaa
open GX Go
set_option maxRecDepth 100000
theorem fine_of {g : Nat} {r : List AV} (h : Rdt Try.prog maxLen (g + 2) 41 r) : ∃ c : AskA, c.cells = r ∧ c.Fine := by
  have hm : maxLen = 9223372036854775807 := rfl
  unfold Rdt at h; rw [u41] at h
  obtain ⟨hl, hf⟩ := h
  rw [c41] at hl
  match r, hl with
  | [a0, a1, a2, a3, a4, a5], _ =>
    simp only [List.mem_cons, forall_eq_or_imp, c3, c9, List.drop_zero, List.drop_succ_cons, List.take_succ_cons, List.take_zero] at hf
    obtain ⟨h0, h1, h2, h3, h4, h5, _⟩ := hf
    obtain ⟨n0, rfl, _⟩ := rdt_int u3 h0
    obtain ⟨n1, rfl, _⟩ := rdt_int u3 h1
    obtain ⟨n2, rfl, w2⟩ := rdt_int u3 h2
    obtain ⟨n3, rfl, w3⟩ := rdt_int u3 h3
    obtain ⟨s4, rfl, _, l4⟩ := rdt_str h4
    obtain ⟨s5, rfl, _, l5⟩ := rdt_str h5
    rw [hm] at l4 l5
    exact ⟨⟨n0, n1, n2, n3, s4, s5⟩, rfl, ⟨wf_i64 w3, wf_i64 w2, Nat.lt_succ_of_le l4, Nat.lt_succ_of_le l5⟩⟩
theorem fines_of {g : Nat} : ∀ (rows : List (List AV)), (∀ r ∈ rows, r.length = Try.prog.cellsOf 41 ∧ Rdt Try.prog maxLen (g + 2) 41 r) → ∃ cs : List AskA, List.flatten rows = cellsK cs ∧ cs.length = rows.length ∧ ∀ c ∈ cs, c.Fine
  | [], _ => ⟨[], rfl, rfl, by simp⟩
  | r :: rows, h => by
    obtain ⟨cs, h1, h2, h3⟩ := fines_of rows (fun r hr => h r (List.mem_cons_of_mem _ hr))
    obtain ⟨c, h4, h5⟩ := fine_of (h r (List.mem_cons_self ..)).2
    refine ⟨c :: cs, by rw [List.flatten_cons, h1, ← h4]; rfl, by simp [h2], fun q hq => ?_⟩
    rcases List.mem_cons.1 hq with rfl | hq
    · exact h5
    · exact h3 q hq
theorem fines_arg {g : Nat} {a : AV} (h : Rdt Try.prog maxLen (g + 3) 37 [a]) : ∃ cs : List AskA, (∀ S, Rd S a 6 (cellsK cs) cs.length) ∧ ∀ c ∈ cs, c.Fine := by
  unfold Rdt at h; rw [u37] at h
  obtain ⟨v, rows, h1, h2, h3, h4⟩ := h
  obtain ⟨cs, g1, g2, g3⟩ := fines_of rows h4
  cases List.head_eq_of_cons_eq h1
  exact ⟨cs, fun S => (by rw [c41] at h2; exact (h2 S).eq g1 g2.symm), g3⟩
end Go.Proofs.Ytjbpegggfacojaa
