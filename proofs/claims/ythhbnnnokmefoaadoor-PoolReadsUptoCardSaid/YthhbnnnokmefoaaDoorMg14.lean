/- What the row leans on, part 14: texts one behind the other. No condition. -/
import Derived.Test.YthhbnnnokmefoaaDoorMg13
import Derived.KernelRfl
import Derived.Test.YthhbnnnokmefoaaDoorMg11
import Derived.Test.YthhbnnnokmefoaaDoorMg12
/- caraferef3.Read: what it does. -/


namespace Go.Proofs.YthhbnnnokmefoaaDoor
open GX
set_option maxHeartbeats 16000000
set_option maxRecDepth 100000
/-- caraferef1's reader, and the constants that were read -/
structure RLq (S0 T : St) (p : Nat) (vb v : AV) (b : List Nat) (r : RdS) (cs : List CnA) (k : Nat) : Prop where
  fr : FrQ S0 T p k
  rr : Rq T p vb b r
  ow : Own T v 24 5 (cellsC cs) cs.length
  bk : ∀ c, blkOf v = some c → S0.n ≤ c
theorem RLq.step {S0 T U : St} {p : Nat} {vb v : AV} {b : List Nat} {r r' : RdS} {cs : List CnA} {k k' : Nat} (h : RLq S0 T p vb v b r cs k) (hp : p < S0.n) (a : FrQ T U p k') (h1 : Rq U p vb b r') : RLq S0 U p vb v b r' cs (k + k') :=
  ⟨h.fr.trans a, h1, h.ow.keep (fun c hc => a.same c (fun e => by have := h.bk c hc; omega) (h.ow.lt h.fr.ok hc)), h.bk⟩
theorem RLq.fr1 {S0 T U : St} {p : Nat} {vb v : AV} {b : List Nat} {r : RdS} {cs : List CnA} {k k' : Nat} (h : RLq S0 T p vb v b r cs k) (hp : p < S0.n) (a : Fr T U .nils k') : RLq S0 U p vb v b r cs (k + k') := h.step hp a.q (h.rr.fr h.fr.ok a)
theorem RLq.k {S0 T : St} {p : Nat} {vb v : AV} {b : List Nat} {r : RdS} {cs : List CnA} {k k' : Nat} (h : RLq S0 T p vb v b r cs k) (hk : k ≤ k') : RLq S0 T p vb v b r cs k' := ⟨h.fr.k hk, h.rr, h.ow, h.bk⟩
theorem RLq.upd {S0 T U : St} {p q : Nat} {vb v : AV} {b : List Nat} {r : RdS} {cs : List CnA} {k : Nat} {x : AB} (h : RLq S0 T p vb v b r cs k) (hp : p < S0.n) (hvb : ∀ c, blkOf vb = some c → c < S0.n) (hq0 : S0.n ≤ q) (hqT : q < T.n) (hv : blkOf v ≠ some q) (hn : U.n = T.n) (hx : U.h.get q = some x) (hf : ∀ c, c ≠ q → U.h.get c = T.h.get c) : RLq S0 U p vb v b r cs k :=
  ⟨⟨by have := h.fr.le; omega, by have := h.fr.n; omega, sok_upd h.fr.ok hqT hn hx hf, fun c h1 h2 => by rw [hf c (by omega)]; exact h.fr.same c h1 h2⟩,
    ⟨by rw [hf p (by omega)]; exact h.rr.cell, h.rr.rd.keep (fun c hc => hf c (by have := hvb c hc; omega)), h.rr.ne, h.rr.le⟩,
    h.ow.keep (fun c hc => hf c (fun e => hv (by rw [hc, e]))), h.bk⟩
theorem RLq.app {S0 T U : St} {p : Nat} {vb v v' : AV} {b : List Nat} {r : RdS} {cs : List CnA} {c : CnA} {k : Nat} (h : RLq S0 T p vb v b r cs k) (hp : p < S0.n) (hvb : ∀ c, blkOf vb = some c → c < S0.n) (h1 : T.n ≤ U.n) (h2 : U.n ≤ T.n + 1) (h3 : Sok U) (h4 : Own U v' 24 5 (cellsC cs ++ c.cells) (cs.length + 1)) (h5 : ∀ d, blkOf v ≠ some d → d < T.n → U.h.get d = T.h.get d) (h6 : ∀ d, blkOf v' = some d → blkOf v = some d ∨ T.n ≤ d) : RLq S0 U p vb v' b r (cs ++ [c]) (k + 1) := by
  have hle := h.fr.le
  have hbk := h.bk
  refine ⟨⟨by omega, by have := h.fr.n; omega, h3, fun d k1 k2 => ?_⟩, ⟨?_, h.rr.rd.keep (fun d hd => ?_), h.rr.ne, h.rr.le⟩, h4.eq (by rw [cellsC_app]; simp [cellsC]) (by simp), fun d hd => ?_⟩
  · rw [h5 d (fun e => by have := hbk d e; omega) (by omega)]; exact h.fr.same d k1 k2
  · rw [h5 p (fun e => by have := hbk p e; omega) (by omega)]; exact h.rr.cell
  · have := hvb d hd
    exact h5 d (fun e => by have := hbk d e; omega) (by omega)
  · rcases h6 d hd with g | g
    · exact hbk d g
    · omega
theorem qread_runs {S : St} {p : Nat} {vb : AV} {b : List Nat} {r0 : RdS} (hok : Sok S) (h : Rq S p vb b r0) (hb : b.length ≤ 10000000) (hlt : ∀ x ∈ b, x < 256) (hvb : ∀ c, blkOf vb = some c → c < S.n) (hn : S.n ≤ 700000000) :
    Runs X1 30 [.ptr p 0] S fun v S' => RLq S S' p vb v b (readS b r0).2 (readS b r0).1 30000000 := by
  have hp : p < S.n := hok _ _ h.cell
  refine Runs_fn (m := 76) (by kernel_rfl) Tryd.func30 rfl (by kernel_rfl) (by kernel_rfl) ?_
  repeat' (
    first
      | refine W_seq ?_
      | refine WO_nil ?_
      | refine V_seq ?_
      | refine W_region ?_
      | refine WO_dst rfl rfl (by kernel_rfl) (by kernel_rfl) ?_
      | refine Ev_move rfl ?_
      | refine Ev_assign rfl ?_)
  refine Ev_call rfl rfl ((qnum_runs hok h (by omega) (by omega) hlt).mono ?_)
  rintro _ S1 - ⟨rfl, h1, hF1⟩
  rw [size2] at h1 ⊢
  have hx2 := take_len r0 b 2
  have hxb := take_lt (r := r0) (n := 2) hlt
  have hnl := numOf_lt _ _ rfl hxb
  have hpw : 256 ^ (r0.take b 2).1.length ≤ 65536 := Nat.pow_le_pow_right (n := 256) (by omega) hx2
  rw [numV_small (by omega)]
  obtain ⟨n, hm⟩ : ∃ n, n = numOf (r0.take b 2).1 := ⟨_, rfl⟩
  rw [← hm] at hnl ⊢
  have gn1 := hF1.n
  have gl1 := hF1.le
  repeat' (
    first
      | refine W_seq ?_
      | refine WO_nil ?_
      | refine V_seq ?_
      | refine W_region ?_
      | refine WO_dst rfl rfl (by kernel_rfl) (by kernel_rfl) ?_
      | refine Ev_move rfl ?_
      | refine Ev_assign rfl ?_
      | refine Ev_gtrN rfl rfl ?_)
  refine W_cut (fun l' T => Rq T p vb b (chead b r0) ∧ FrQ S T p 2 ∧ sub [(4, .int .i64 ((n : Nat) : Int)), (3, .nils), (0, .ptr p 0)] l') ?_ ?_
  · repeat' (
      first
        | refine W_region ?_
        | refine W_skip ?_
        | refine WO_dst rfl rfl (by kernel_rfl) (by kernel_rfl) ?_
        | refine Ev_move rfl ?_
        | (refine W_cond rfl (fun hc => ?_) (fun hc => ?_) <;> (try dsimp only at hc) <;> try (exfalso; first | omega | exact hc rfl)))
    · refine Ev_call rfl rfl ((qfail_runs hF1.ok h1 (by omega)).mono ?_)
      rintro _ S2 - ⟨h2, hF2⟩
      repeat' (
        refine WO_nil ?_)
      refine V_mid ⟨?_, hF1.trans hF2.q, rfl, rfl, rfl, trivial⟩
      unfold chead; rw [← hm, if_pos (by omega)]; exact h2
    · refine V_mid ⟨?_, hF1, rfl, rfl, rfl, trivial⟩
      unfold chead; rw [← hm, if_neg (by omega)]; exact h1
  rintro l' S2 ⟨h2, hF2, hs⟩
  refine V_weak hs ?_
  repeat' (
    first
      | refine W_seq ?_
      | refine WO_nil ?_
      | refine V_seq ?_
      | refine W_region ?_
      | refine W_block ?_
      | refine WO_dst rfl rfl (by kernel_rfl) (by kernel_rfl) ?_
      | refine Ev_assign rfl ?_)
  refine W_inv (fun a : Nat × AV => [(5, .int .i64 ((a.1 : Nat) : Int)), (4, .int .i64 ((n : Nat) : Int)), (3, a.2), (0, .ptr p 0)]) (fun a T => ∃ r cs, RLq S T p vb a.2 b r cs (100000 * a.1 + 10) ∧ a.1 ≤ 256 ∧ a.1 ≤ n ∧ cs.length ≤ a.1 ∧ readS b r0 = (if r.err ≠ 0 then ([], r) else cloop b (n - a.1) r cs) ∧ (a.1 = 0 → r = chead b r0) ∧ (0 < a.1 → n ≤ 256)) (fun a => n - a.1) ?_ (0, .nils) ?_ ⟨rfl, rfl, rfl, rfl, trivial⟩
  · rintro ⟨i, v⟩ T ⟨r, cs, hL, hi, hin, hcs, hcl, hz, hpos⟩ back
    dsimp only at hL hi hin hcs hcl hz hpos back
    have gn := hL.fr.n
    have gl := hL.fr.le
    have hvT : ∀ d, blkOf v = some d → d < T.n := fun d hd => hL.ow.lt hL.fr.ok hd
    repeat' (
      first
        | refine W_seq ?_
        | refine WO_nil ?_
        | refine V_seq ?_
        | refine W_region ?_
        | refine W_block ?_
        | refine W_skip ?_
        | refine W_ret ?_
        | refine W_exit ?_
        | refine V_ret ?_
        | refine V_block_x rfl ?_
        | refine V_seq_x ?_
        | refine V_loop_x ?_
        | refine W_cond_f rfl ?_
        | refine WO_dst rfl rfl (by kernel_rfl) (by kernel_rfl) ?_
        | refine WO_guard_t rfl rfl rfl rfl rfl (by kernel_rfl) (by kernel_rfl) ?_
        | refine WO_guard_f rfl rfl rfl rfl rfl rfl (by kernel_rfl) (by kernel_rfl) ?_
        | refine Ev_load rfl rfl rfl hL.rr.cell rfl (veq_bool _) ?_
        | refine Ev_move rfl ?_
        | refine Ev_assign rfl ?_
        | refine Ev_pick_t rfl rfl rfl ?_
        | refine Ev_pick_f rfl rfl rfl ?_
        | refine Ev_lssN rfl rfl ?_
        | refine Ev_not rfl ?_
        | refine Ev_nilCheck rfl ?_
        | refine Ev_fieldAddr rfl rfl rfl rfl rfl rfl ?_
        | (refine WO_guard_dt rfl rfl rfl rfl rfl (by kernel_rfl) (by kernel_rfl) (fun hg => ?_) (fun hg => ?_) <;> (try dsimp only at hg) <;> try (exfalso; first | omega | exact hg rfl))
        | (refine W_cond rfl (fun hc => ?_) (fun hc => ?_) <;> (try dsimp only at hc) <;> try (exfalso; first | omega | exact hc rfl)))
    · have hlt2 : i < n := by assumption
      have hr0 : r.err = 0 := by first | omega | exact Classical.not_not.1 (by assumption)
      rw [if_neg (by omega)] at hcl
      have hn256 : n ≤ 256 := by
        rcases Nat.eq_zero_or_pos i with h0 | h0
        · by_cases hb256 : n ≤ 256
          · exact hb256
          · exfalso
            have hbad : (chead b r0).err ≠ 0 := by unfold chead; rw [← hm, if_pos (by omega)]; exact refuse_err (by decide)
            rw [hz h0] at hr0; exact hbad hr0
        · exact hpos h0
      refine Ev_call rfl rfl ((qnum_runs hL.fr.ok hL.rr (by omega) (by omega) hlt).mono ?_)
      rintro _ T1 - ⟨rfl, h1, hF1⟩
      rw [size1] at h1 ⊢
      obtain ⟨k, hk⟩ : ∃ k, k = ckind b r := ⟨_, rfl⟩
      rw [show numV (r.take b 1).1 = ckind b r from rfl, ← hk]
      have hkin := ckind_in (r := r) hlt
      rw [← hk] at hkin
      have gn1 := hF1.n
      have gl1 := hF1.le
      repeat (
        refine WO_dst rfl rfl (by kernel_rfl) (by kernel_rfl) ?_)
      refine Ev_build (v := .agg [.int .i64 k, .int .i32 0, .str [], .str [], .str []]) rfl rfl ?_
      repeat (
        refine WO_dst rfl rfl (by kernel_rfl) (by kernel_rfl) ?_)
      refine Ev_alloc_ rfl hF1.ok (by omega) ?_
      intro T2 gn2 gok2 gq2 gf2
      repeat (
        refine WO_no rfl rfl ?_)
      refine Ev_store rfl rfl rfl rfl rfl gq2 (by simp [AV.cells]) (by omega) ?_
      intro T3 gn3 gq3 gf3
      have hF3 : Fr T1 T3 .nils 1 := ⟨by omega, by omega, sok_upd gok2 (by omega) gn3 gq3 gf3, fun c _ h => by rw [gf3 c (by omega), gf2 c h]⟩
      have hL3 := (hL.step hp hF1 h1).fr1 hp hF3
      have hq3 : T3.h.get T1.n = some (.cells 24 (CnA.mk k 0 [] [] []).cells false) := gq3
      have hvq : blkOf v ≠ some T1.n := fun e => by have := hvT _ e; omega
      repeat (
        first
          | refine W_seq ?_
          | refine WO_nil ?_
          | refine V_seq ?_
          | refine W_region ?_
          | refine W_block ?_
          | refine WO_dst rfl rfl (by kernel_rfl) (by kernel_rfl) ?_
          | refine Ev_load rfl rfl rfl hq3 rfl (veq_int _ _) ?_
          | refine Ev_assign rfl ?_
          | refine Ev_eql rfl rfl ?_
          | refine Ev_fieldAddr rfl rfl rfl rfl rfl rfl ?_)
      have hT1 : S.n ≤ T1.n := by omega
      have gl3 : T1.n < T3.n := by omega
      refine W_cut (fun l' U => U.h.get T1.n = some (.cells 24 (cstep b r).1.cells false) ∧ RLq S U p vb v b (cstep b r).2 cs (100000 * i + 30000) ∧ T1.n < U.n ∧ sub [(6, .ptr T1.n 0), (5, .int .i64 ((i : Nat) : Int)), (4, .int .i64 ((n : Nat) : Int)), (3, v), (0, .ptr p 0)] l') ?_ ?_
      · repeat' (
          first
            | refine W_seq ?_
            | refine WO_nil ?_
            | refine V_seq ?_
            | refine W_region ?_
            | refine W_skip ?_
            | refine WO_dst rfl rfl (by kernel_rfl) (by kernel_rfl) ?_
            | refine Ev_move rfl ?_
            | refine Ev_assign rfl ?_
            | refine Ev_eql rfl rfl ?_
            | (refine W_cond rfl (fun hc => ?_) (fun hc => ?_) <;> (try dsimp only at hc) <;> try (exfalso; first | omega | exact hc rfl)))
        · refine Ev_call rfl rfl ((qnum_runs hL3.fr.ok hL3.rr (by omega) (by omega) hlt).mono ?_)
          rintro _ T4 - ⟨rfl, h4, hF4⟩
          rw [size4] at h4 ⊢
          have gn4 := hF4.n
          have gl4 := hF4.le
          have hq4 : T4.h.get T1.n = some (.cells 24 (CnA.mk k 0 [] [] []).cells false) := by rw [hF4.same T1.n (by omega) (by omega)]; exact hq3
          have hL4 := hL3.step hp hF4 h4
          repeat (
            refine WO_dst rfl rfl (by kernel_rfl) (by kernel_rfl) ?_)
          refine Ev_convw rfl rfl rfl rfl rfl ?_
          repeat (
            first
              | refine WO_dst rfl rfl (by kernel_rfl) (by kernel_rfl) ?_
              | refine WO_no rfl rfl ?_
              | refine Ev_fieldAddr rfl rfl rfl rfl rfl rfl ?_)
          refine Ev_store1 rfl rfl rfl rfl rfl rfl hq4 (by simp [CnA.cells]) (by omega) ?_
          intro T5 gn5 gq5 gf5
          have hL5 := hL4.upd hp hvb hT1 (by omega) hvq gn5 gq5 gf5
          have e : cstep b r = (⟨3, wrp .i32 (numV ((r.take b 1).2.take b 4).1), [], [], []⟩, ((r.take b 1).2.take b 4).2) := by unfold cstep; rw [if_pos (by omega)]
          repeat' (
            refine WO_nil ?_)
          refine V_mid ⟨?_, ?_, by omega, rfl, rfl, rfl, rfl, rfl, trivial⟩
          · rw [e, gq5]
            have hk3 : k = 3 := by omega
            rw [hk3]; rfl
          · rw [e]; exact hL5.k (by omega)
        · have hk7 : k = 7 := by omega
          refine Ev_call rfl rfl ((qtext_runs hL3.fr.ok hL3.rr (by omega) (by omega) hlt).mono ?_)
          rintro _ T4 - ⟨rfl, h4, hF4⟩
          have gn4 := hF4.n
          have gl4 := hF4.le
          have hL4 := hL3.step hp hF4 h4
          have hq4 : T4.h.get T1.n = some (.cells 24 (CnA.mk k 0 [] [] []).cells false) := by rw [hF4.same T1.n (by omega) (by omega)]; exact hq3
          repeat (
            first
              | refine WO_dst rfl rfl (by kernel_rfl) (by kernel_rfl) ?_
              | refine WO_no rfl rfl ?_
              | refine Ev_fieldAddr rfl rfl rfl rfl rfl rfl ?_)
          refine Ev_store1 rfl rfl rfl rfl rfl rfl hq4 (by simp [CnA.cells]) (by omega) ?_
          intro T5 gn5 gq5 gf5
          have hL5 := hL4.upd hp hvb hT1 (by omega) hvq gn5 gq5 gf5
          have e := cstep_7 (b := b) (r := r) (by omega)
          repeat' (
            refine WO_nil ?_)
          refine V_mid ⟨?_, ?_, by omega, rfl, rfl, rfl, rfl, rfl, trivial⟩
          · rw [e, gq5, hk7]; rfl
          · rw [e]; exact hL5.k (by omega)
        · have hk2 : k = 9 ∨ k = 10 := by omega
          refine Ev_call rfl rfl ((qtext_runs hL3.fr.ok hL3.rr (by omega) (by omega) hlt).mono ?_)
          rintro _ T4 - ⟨rfl, h4, hF4⟩
          have gn4 := hF4.n
          have gl4 := hF4.le
          have hL4 := hL3.step hp hF4 h4
          have hq4 : T4.h.get T1.n = some (.cells 24 (CnA.mk k 0 [] [] []).cells false) := by rw [hF4.same T1.n (by omega) (by omega)]; exact hq3
          repeat (
            first
              | refine WO_dst rfl rfl (by kernel_rfl) (by kernel_rfl) ?_
              | refine WO_no rfl rfl ?_
              | refine Ev_fieldAddr rfl rfl rfl rfl rfl rfl ?_)
          refine Ev_store1 rfl rfl rfl rfl rfl rfl hq4 (by simp [CnA.cells]) (by omega) ?_
          intro T5 gn5 gq5 gf5
          have hL5 := hL4.upd hp hvb hT1 (by omega) hvq gn5 gq5 gf5
          have hq5 : T5.h.get T1.n = some (.cells 24 (CnA.mk k 0 ((r.take b 1).2.text b).1 [] []).cells false) := gq5
          repeat (
            first
              | refine W_seq ?_
              | refine WO_nil ?_
              | refine V_seq ?_
              | refine W_region ?_
              | refine WO_dst rfl rfl (by kernel_rfl) (by kernel_rfl) ?_
              | refine Ev_move rfl ?_)
          refine Ev_call rfl rfl ((qtext_runs hL5.fr.ok hL5.rr (by omega) (by omega) hlt).mono ?_)
          rintro _ T6 - ⟨rfl, h6, hF6⟩
          have gn6 := hF6.n
          have gl6 := hF6.le
          have hL6 := hL5.step hp hF6 h6
          have hq6 : T6.h.get T1.n = some (.cells 24 (CnA.mk k 0 ((r.take b 1).2.text b).1 [] []).cells false) := by rw [hF6.same T1.n (by omega) (by omega)]; exact hq5
          repeat (
            first
              | refine WO_dst rfl rfl (by kernel_rfl) (by kernel_rfl) ?_
              | refine WO_no rfl rfl ?_
              | refine Ev_fieldAddr rfl rfl rfl rfl rfl rfl ?_)
          refine Ev_store1 rfl rfl rfl rfl rfl rfl hq6 (by simp [CnA.cells]) (by omega) ?_
          intro T7 gn7 gq7 gf7
          have hL7 := hL6.upd hp hvb hT1 (by omega) hvq gn7 gq7 gf7
          have hq7 : T7.h.get T1.n = some (.cells 24 (CnA.mk k 0 ((r.take b 1).2.text b).1 (((r.take b 1).2.text b).2.text b).1 []).cells false) := gq7
          repeat (
            first
              | refine WO_nil ?_
              | refine V_seq ?_
              | refine W_region ?_
              | refine WO_dst rfl rfl (by kernel_rfl) (by kernel_rfl) ?_
              | refine Ev_move rfl ?_)
          refine Ev_call rfl rfl ((qtext_runs hL7.fr.ok hL7.rr (by omega) (by omega) hlt).mono ?_)
          rintro _ T8 - ⟨rfl, h8, hF8⟩
          have gn8 := hF8.n
          have gl8 := hF8.le
          have hL8 := hL7.step hp hF8 h8
          have hq8 : T8.h.get T1.n = some (.cells 24 (CnA.mk k 0 ((r.take b 1).2.text b).1 (((r.take b 1).2.text b).2.text b).1 []).cells false) := by rw [hF8.same T1.n (by omega) (by omega)]; exact hq7
          repeat (
            first
              | refine WO_dst rfl rfl (by kernel_rfl) (by kernel_rfl) ?_
              | refine WO_no rfl rfl ?_
              | refine Ev_fieldAddr rfl rfl rfl rfl rfl rfl ?_)
          refine Ev_store1 rfl rfl rfl rfl rfl rfl hq8 (by simp [CnA.cells]) (by omega) ?_
          intro T9 gn9 gq9 gf9
          have hL9 := hL8.upd hp hvb hT1 (by omega) hvq gn9 gq9 gf9
          have e := cstep_9 (b := b) (r := r) (by omega)
          repeat' (
            refine WO_nil ?_)
          refine V_mid ⟨?_, ?_, by omega, rfl, rfl, rfl, rfl, rfl, trivial⟩
          · rw [e, gq9, ← hk]; rfl
          · rw [e]; exact hL9.k (by omega)
        · have hk2 : k = 9 ∨ k = 10 := by omega
          refine Ev_call rfl rfl ((qtext_runs hL3.fr.ok hL3.rr (by omega) (by omega) hlt).mono ?_)
          rintro _ T4 - ⟨rfl, h4, hF4⟩
          have gn4 := hF4.n
          have gl4 := hF4.le
          have hL4 := hL3.step hp hF4 h4
          have hq4 : T4.h.get T1.n = some (.cells 24 (CnA.mk k 0 [] [] []).cells false) := by rw [hF4.same T1.n (by omega) (by omega)]; exact hq3
          repeat (
            first
              | refine WO_dst rfl rfl (by kernel_rfl) (by kernel_rfl) ?_
              | refine WO_no rfl rfl ?_
              | refine Ev_fieldAddr rfl rfl rfl rfl rfl rfl ?_)
          refine Ev_store1 rfl rfl rfl rfl rfl rfl hq4 (by simp [CnA.cells]) (by omega) ?_
          intro T5 gn5 gq5 gf5
          have hL5 := hL4.upd hp hvb hT1 (by omega) hvq gn5 gq5 gf5
          have hq5 : T5.h.get T1.n = some (.cells 24 (CnA.mk k 0 ((r.take b 1).2.text b).1 [] []).cells false) := gq5
          repeat (
            first
              | refine W_seq ?_
              | refine WO_nil ?_
              | refine V_seq ?_
              | refine W_region ?_
              | refine WO_dst rfl rfl (by kernel_rfl) (by kernel_rfl) ?_
              | refine Ev_move rfl ?_)
          refine Ev_call rfl rfl ((qtext_runs hL5.fr.ok hL5.rr (by omega) (by omega) hlt).mono ?_)
          rintro _ T6 - ⟨rfl, h6, hF6⟩
          have gn6 := hF6.n
          have gl6 := hF6.le
          have hL6 := hL5.step hp hF6 h6
          have hq6 : T6.h.get T1.n = some (.cells 24 (CnA.mk k 0 ((r.take b 1).2.text b).1 [] []).cells false) := by rw [hF6.same T1.n (by omega) (by omega)]; exact hq5
          repeat (
            first
              | refine WO_dst rfl rfl (by kernel_rfl) (by kernel_rfl) ?_
              | refine WO_no rfl rfl ?_
              | refine Ev_fieldAddr rfl rfl rfl rfl rfl rfl ?_)
          refine Ev_store1 rfl rfl rfl rfl rfl rfl hq6 (by simp [CnA.cells]) (by omega) ?_
          intro T7 gn7 gq7 gf7
          have hL7 := hL6.upd hp hvb hT1 (by omega) hvq gn7 gq7 gf7
          have hq7 : T7.h.get T1.n = some (.cells 24 (CnA.mk k 0 ((r.take b 1).2.text b).1 (((r.take b 1).2.text b).2.text b).1 []).cells false) := gq7
          repeat (
            first
              | refine WO_nil ?_
              | refine V_seq ?_
              | refine W_region ?_
              | refine WO_dst rfl rfl (by kernel_rfl) (by kernel_rfl) ?_
              | refine Ev_move rfl ?_)
          refine Ev_call rfl rfl ((qtext_runs hL7.fr.ok hL7.rr (by omega) (by omega) hlt).mono ?_)
          rintro _ T8 - ⟨rfl, h8, hF8⟩
          have gn8 := hF8.n
          have gl8 := hF8.le
          have hL8 := hL7.step hp hF8 h8
          have hq8 : T8.h.get T1.n = some (.cells 24 (CnA.mk k 0 ((r.take b 1).2.text b).1 (((r.take b 1).2.text b).2.text b).1 []).cells false) := by rw [hF8.same T1.n (by omega) (by omega)]; exact hq7
          repeat (
            first
              | refine WO_dst rfl rfl (by kernel_rfl) (by kernel_rfl) ?_
              | refine WO_no rfl rfl ?_
              | refine Ev_fieldAddr rfl rfl rfl rfl rfl rfl ?_)
          refine Ev_store1 rfl rfl rfl rfl rfl rfl hq8 (by simp [CnA.cells]) (by omega) ?_
          intro T9 gn9 gq9 gf9
          have hL9 := hL8.upd hp hvb hT1 (by omega) hvq gn9 gq9 gf9
          have e := cstep_9 (b := b) (r := r) (by omega)
          repeat' (
            refine WO_nil ?_)
          refine V_mid ⟨?_, ?_, by omega, rfl, rfl, rfl, rfl, rfl, trivial⟩
          · rw [e, gq9, ← hk]; rfl
          · rw [e]; exact hL9.k (by omega)
        · refine Ev_call rfl rfl ((qfail_runs hL3.fr.ok hL3.rr (by omega)).mono ?_)
          rintro _ T4 - ⟨h4, hF4⟩
          have gn4 := hF4.n
          have hL4 := hL3.step hp hF4.q h4
          have hq4 : T4.h.get T1.n = some (.cells 24 (CnA.mk k 0 [] [] []).cells false) := by rw [hF4.same T1.n (by omega)]; exact hq3
          have e := cstep_o (b := b) (r := r) (by omega) (by omega) (by omega)
          repeat' (
            refine WO_nil ?_)
          refine V_mid ⟨?_, ?_, by omega, rfl, rfl, rfl, rfl, rfl, trivial⟩
          · rw [e, hq4, ← hk]
          · rw [e]; exact hL4.k (by omega)
      rintro l' T6 ⟨hq6, hL6, gT6, hs6⟩
      refine V_weak hs6 ?_
      obtain ⟨hcg, hcb1, hcb2, hcb3⟩ := cstep_good (r := r) hlt
      obtain ⟨c, hcc⟩ : ∃ c, c = (cstep b r).1 := ⟨_, rfl⟩
      obtain ⟨r6, hr6⟩ : ∃ r6, r6 = (cstep b r).2 := ⟨_, rfl⟩
      have hcn : cnext b r = if rightP c then r6 else r6.refuse 14 (r6.pos : Int) := by unfold cnext; rw [← hcc, ← hr6]
      rw [← hcc] at hq6 hcg hcb1 hcb2 hcb3
      rw [← hr6] at hL6
      have gn6 := hL6.fr.n
      have gl6 := hL6.fr.le
      repeat (first | refine V_block ?_ | refine V_seq ?_)
      refine W_seq ?_
      refine W_seq ?_
      refine W_cut (fun l' U => U.h.get T1.n = some (.cells 24 c.cells false) ∧ RLq S U p vb v b r6 cs (100000 * i + 40000) ∧ T1.n < U.n ∧ sub [(64, .bool (decide (r6.err = 0 ∧ ¬ rightP c))), (6, .ptr T1.n 0), (5, .int .i64 ((i : Nat) : Int)), (4, .int .i64 ((n : Nat) : Int)), (3, v), (0, .ptr p 0)] l') ?_ ?_
      · repeat' (
          first
            | refine WO_nil ?_
            | refine W_region ?_
            | refine WO_dst rfl rfl (by kernel_rfl) (by kernel_rfl) ?_
            | refine WO_guard_f rfl rfl rfl rfl rfl rfl (by kernel_rfl) (by kernel_rfl) ?_
            | refine Ev_load rfl rfl rfl hL6.rr.cell rfl (veq_bool _) ?_
            | refine Ev_move rfl ?_
            | refine Ev_pick_f rfl rfl rfl ?_
            | refine Ev_not rfl ?_
            | refine Ev_nilCheck rfl ?_
            | refine Ev_fieldAddr rfl rfl rfl rfl rfl rfl ?_
            | (refine WO_guard_dt rfl rfl rfl rfl rfl (by kernel_rfl) (by kernel_rfl) (fun hg => ?_) (fun hg => ?_) <;> (try dsimp only at hg) <;> try (exfalso; first | omega | exact hg rfl)))
        · have he6 : r6.err = 0 := by first | omega | exact Classical.not_not.1 (by assumption)
          refine Ev_load_agg rfl rfl rfl hq6 (by simp [CnA.cells]) (show (c.cells.drop 0).take 5 = c.cells from rfl) (CnA.veqs c) ?_
          repeat (
            first
              | refine WO_dst rfl rfl (by kernel_rfl) (by kernel_rfl) ?_
              | refine WO_guard_t rfl rfl rfl rfl rfl (by kernel_rfl) (by kernel_rfl) ?_)
          refine Ev_call rfl rfl ((rright_runs hL6.fr.ok ⟨by omega, by omega, by omega⟩ (by omega)).mono ?_)
          rintro _ T7 - ⟨rfl, hF7⟩
          have gn7 := hF7.n
          have gl7 := hF7.le
          have hL7 := hL6.fr1 hp hF7
          have hq7 : T7.h.get T1.n = some (.cells 24 c.cells false) := by rw [hF7.same T1.n (by simp [blkOf]) gT6]; exact hq6
          repeat (
            first
              | refine WO_nil ?_
              | refine WO_dst rfl rfl (by kernel_rfl) (by kernel_rfl) ?_
              | refine WO_guard_t rfl rfl rfl rfl rfl (by kernel_rfl) (by kernel_rfl) ?_
              | refine Ev_pick_t rfl rfl rfl ?_
              | refine Ev_not rfl ?_)
          refine V_mid ⟨hq7, hL7.k (by omega), by omega, ?_, rfl, rfl, rfl, rfl, rfl, trivial⟩
          show some (AV.bool (decide (¬ rightP c))) = _
          congr 2
          exact decide_eq_decide.2 ⟨fun h => ⟨he6, h⟩, fun h => h.2⟩
        · have he6 : ¬ r6.err = 0 := by first | assumption | omega | (intro h; simp_all)
          refine V_mid ⟨hq6, hL6.k (by omega), by omega, ?_, rfl, rfl, rfl, rfl, rfl, trivial⟩
          show some (AV.bool false) = _
          rw [decide_eq_false (fun h => he6 h.1)]
      rintro l' T7 ⟨hq7, hL7, gT7, hs7⟩
      refine V_weak hs7 ?_
      repeat' (
        refine V_seq ?_)
      refine W_cut (fun l' U => U.h.get T1.n = some (.cells 24 c.cells false) ∧ RLq S U p vb v b (cnext b r) cs (100000 * i + 40030) ∧ T1.n < U.n ∧ sub [(6, .ptr T1.n 0), (5, .int .i64 ((i : Nat) : Int)), (4, .int .i64 ((n : Nat) : Int)), (3, v), (0, .ptr p 0)] l') ?_ ?_
      · have gn7 := hL7.fr.n
        repeat' (
          first
            | refine W_region ?_
            | refine W_skip ?_
            | refine WO_dst rfl rfl (by kernel_rfl) (by kernel_rfl) ?_
            | refine Ev_move rfl ?_
            | (refine W_cond rfl (fun hc => ?_) (fun hc => ?_) <;> (try dsimp only at hc) <;> try (exfalso; first | omega | exact hc rfl)))
        · have hand : r6.err = 0 ∧ ¬ rightP c := by assumption
          refine Ev_call rfl rfl ((qfail_runs hL7.fr.ok hL7.rr (by omega)).mono ?_)
          rintro _ T8 - ⟨h8, hF8⟩
          have gn8 := hF8.n
          have hL8 := hL7.step hp hF8.q h8
          repeat' (
            refine WO_nil ?_)
          refine V_mid ⟨by rw [hF8.same T1.n (by omega)]; exact hq7, ?_, by omega, rfl, rfl, rfl, rfl, rfl, trivial⟩
          rw [hcn, if_neg hand.2]; exact hL8.k (by omega)
        · have hand : ¬ (r6.err = 0 ∧ ¬ rightP c) := by assumption
          refine V_mid ⟨hq7, ?_, by omega, rfl, rfl, rfl, rfl, rfl, trivial⟩
          have e : cnext b r = r6 := by
            rw [hcn]
            by_cases hr : rightP c
            · rw [if_pos hr]
            · rw [if_neg hr]; exact refuse_bad (fun h => hand ⟨h, hr⟩)
          rw [e]; exact hL7.k (by omega)
      rintro l' T8 ⟨hq8, hL8, gT8, hs8⟩
      refine V_weak hs8 ?_
      obtain ⟨rn, hrn⟩ : ∃ rn, rn = cnext b r := ⟨_, rfl⟩
      have hnl2 : n - i = (n - (i + 1)) + 1 := by omega
      have hcl2 : readS b r0 = if rn.err ≠ 0 then ([], rn) else cloop b (n - (i + 1)) rn (cs ++ [c]) := by
        rw [hcl, hnl2, hrn, hcc]; rfl
      rw [← hrn] at hL8
      have gn8 := hL8.fr.n
      have gl8 := hL8.fr.le
      repeat (
        first
          | refine V_seq ?_
          | refine W_region ?_
          | refine WO_dst rfl rfl (by kernel_rfl) (by kernel_rfl) ?_
          | refine Ev_move rfl ?_)
      refine Ev_load_agg rfl rfl rfl hq8 (by simp [CnA.cells]) (show (c.cells.drop 0).take 5 = c.cells from rfl) (CnA.veqs c) ?_
      repeat (
        refine WO_dst rfl rfl (by kernel_rfl) (by kernel_rfl) ?_)
      refine Ev_buildSlice rfl rfl rfl rfl rfl rfl hL8.fr.ok (by omega) ?_
      intro T10 gn10 gok10 gq10 gf10
      have hF10 : Fr T8 T10 .nils 1 := ⟨by omega, by omega, gok10, fun c _ h => gf10 c h⟩
      have hL10 := hL8.fr1 hp hF10
      have hrd : Rd T10 (.slice T8.n 0 1 (.ex 1)) 5 c.cells 1 := Rd_lit gq10 rfl rfl
      repeat (
        refine WO_dst rfl rfl (by kernel_rfl) (by kernel_rfl) ?_)
      refine Ev_append rfl rfl rfl rfl rfl rfl rfl rfl rfl rfl hL10.ow hrd (CnA.ones c) gok10 (by omega) (by dsimp only; omega) (by omega) ?_
      intro v' T11 k1 k2 k3 k4 k5 k6
      have hL11 := hL10.app hp hvb k1 k2 k3 k4 k5 k6
      repeat' (
        first
          | refine WO_nil ?_
          | refine V_seq ?_
          | refine W_region ?_
          | refine V_block ?_
          | refine WO_dst rfl rfl (by kernel_rfl) (by kernel_rfl) ?_
          | refine Ev_move rfl ?_
          | refine Ev_assign rfl ?_
          | refine Ev_addN rfl rfl (by simp only [lim]; omega) ?_)
      refine back (i + 1, v') T11 _ (by dsimp only; omega) ⟨rn, cs ++ [c], hL11.k (by dsimp only; omega), by dsimp only; omega, by dsimp only; omega, by simp; omega, hcl2, fun h => by dsimp only at h; omega, fun _ => hn256⟩ ⟨rfl, rfl, rfl, rfl, trivial⟩
    all_goals
      by_cases he : r.err = 0
      · first
          | (exfalso; omega)
          | (rw [if_neg (by omega)] at hcl
             have hin2 : i = n := by omega
             subst hin2
             refine V_done rfl rfl ?_
             rw [hcl, Nat.sub_self]
             exact hL.k (by omega))
      · first
          | (exfalso; omega)
          | (rw [if_pos he] at hcl
             refine V_done rfl rfl ?_
             rw [hcl]
             exact ⟨hL.fr.k (by omega), hL.rr, .inl ⟨rfl, rfl, rfl⟩, fun c hc => by cases hc⟩)
  · exact ⟨chead b r0, [], ⟨⟨hF2.le, by have := hF2.n; dsimp only; omega, hF2.ok, hF2.same⟩, h2, .inl ⟨rfl, rfl, rfl⟩, fun c hc => by cases hc⟩, Nat.zero_le _, Nat.zero_le _, by simp, by unfold readS; rw [← hm]; rfl, fun _ => rfl, fun h => absurd h (Nat.lt_irrefl _)⟩
end Go.Proofs.YthhbnnnokmefoaaDoor
/- caraferef3.Write. (NODRAWN) -/




namespace Go.Proofs.YthhbnnnokmefoaaDoor
open GX
set_option maxHeartbeats 16000000
/-- why constants are not written; 0: they are -/
def writeE (cs : List CnA) : Int := if 256 < cs.length then 4 else if ∀ c ∈ cs, rightP c then 0 else 14
theorem kind_byte {k : Int} : sbytes (numL k 1) = [.int .u8 (((k % 256).toNat : Nat) : Int)] := by
  show [AV.int .u8 ((byteAt k 0 : Nat) : Int)] = _
  unfold byteAt
  rw [show ((2 ^ (8 * 0) : Nat) : Int) = 1 from rfl, Int.ediv_one]
theorem pt_of {S : St} {b o ty : Nat} {cs : List AV} {sp : Bool} (h : S.h.get b = some (.cells ty cs sp)) : Pt S (.ptr b o) cs o :=
  .inl ⟨b, 0, ty, cs, sp, by rw [Nat.zero_add], h, by omega, fun i _ => by rw [Nat.zero_add]⟩
theorem constL_3' {c : CnA} (h : c.kind = 3) : constL c = numL c.kind 1 ++ numL c.n 4 := by unfold constL; rw [if_pos h]
theorem constL_9' {c : CnA} (h : c.kind = 9 ∨ c.kind = 10) : constL c = numL c.kind 1 ++ (textL c.cl ++ (textL c.nm ++ textL c.ds)) := by unfold constL; rw [if_neg (by omega), if_pos h]
theorem constL_7' {c : CnA} (h : c.kind = 7) : constL c = numL c.kind 1 ++ textL c.cl := by unfold constL; rw [if_neg (by omega), if_neg (by omega)]
theorem rpwrite_runs {S : St} {v : AV} {cs : List CnA} (hok : Sok S) (hv : Cs S v cs) (hgood : ∀ c ∈ cs, c.Good ∧ c.cl.length ≤ 1048576 ∧ c.nm.length ≤ 1048576 ∧ c.ds.length ≤ 1048576) (hl : cs.length ≤ 1000000) (hn : S.n ≤ 900000000) :
    Runs X1 13 [.nils, v] S fun r S' => ∃ w, r = .tup [w, .int .i64 (writeE cs)] ∧ Fr S S' .nils 5000000 ∧ Ow S' w (if writeE cs = 0 then poolL cs else []) ∧ ∀ c, blkOf w = some c → S.n ≤ c := by
  refine Runs_fn (m := 61) (by kernel_rfl) Tryd.func13 rfl (by kernel_rfl) (by kernel_rfl) ?_
  repeat' (
    first
      | refine W_seq ?_
      | refine WO_nil ?_
      | refine V_seq ?_
      | refine W_region ?_
      | refine W_skip ?_
      | refine W_ret ?_
      | refine V_ret ?_
      | refine WO_dst rfl rfl (by kernel_rfl) (by kernel_rfl) ?_
      | refine Ev_len rfl rfl rfl rfl rfl hv.len ?_
      | refine Ev_move rfl ?_
      | refine Ev_assign rfl ?_
      | refine Ev_gtrN rfl rfl ?_
      | (refine W_cond rfl (fun hc => ?_) (fun hc => ?_) <;> (try dsimp only at hc) <;> try (exfalso; first | omega | exact hc rfl)))
  · have e : writeE cs = 4 := by unfold writeE; rw [if_pos (by assumption)]
    refine V_done rfl rfl ⟨.nils, by rw [e]; rfl, ⟨by omega, by omega, hok, fun _ _ _ => rfl⟩, ?_, fun c hc => by cases hc⟩
    rw [e]; exact .inl ⟨rfl, rfl, rfl⟩
  have h256 : cs.length ≤ 256 := by omega
  refine Ev_call rfl rfl ((rnumber_runs (l := []) hok ⟨rfl, rfl, rfl, rfl, rfl, rfl⟩ (by simp) (by omega)).mono ?_)
  rintro w0 T0 - ⟨hF0, how0, hbk0⟩
  rw [size2, List.nil_append] at how0
  have gn0 := hF0.n
  have gl0 := hF0.le
  repeat' (
    first
      | refine W_seq ?_
      | refine WO_nil ?_
      | refine V_seq ?_
      | refine W_region ?_
      | refine W_block ?_
      | refine WO_dst rfl rfl (by kernel_rfl) (by kernel_rfl) ?_
      | refine Ev_assign rfl ?_)
  refine W_inv (fun a : Nat × AV => [(7, .int .i64 ((a.1 : Nat) : Int)), (6, a.2), (1, v)]) (fun a T => Fr S T .nils (5000 * a.1 + 20) ∧ Ow T a.2 (numL (cs.length : Int) 2 ++ (cs.take a.1).flatMap constL) ∧ (∀ c, blkOf a.2 = some c → S.n ≤ c) ∧ a.1 ≤ cs.length ∧ ∀ c ∈ cs.take a.1, rightP c) (fun a => cs.length - a.1) ?_ (0, w0) ⟨⟨by omega, by dsimp only; omega, hF0.ok, hF0.same⟩, by simpa using how0, hbk0, Nat.zero_le _, by simp⟩ ⟨rfl, rfl, rfl, trivial⟩
  rintro ⟨i, w⟩ T ⟨hF, how, hbk, hi, hall⟩ back
  dsimp only at hF how hbk hi hall back
  have gn := hF.n
  have gl := hF.le
  have hv1 := hv.keep (fun c h => hF.same c (by simp [blkOf]) (hv.lt hok h))
  have hL : (numL (cs.length : Int) 2 ++ (cs.take i).flatMap constL).length ≤ 300000 := by
    have := consts_len (cs.take i)
    have h3 : (cs.take i).length ≤ 256 := by rw [List.length_take]; omega
    simp only [List.length_append, numL_len]; omega
  repeat' (
    first
      | refine W_seq ?_
      | refine WO_nil ?_
      | refine V_seq ?_
      | refine W_region ?_
      | refine W_skip ?_
      | refine W_block ?_
      | refine W_ret ?_
      | refine W_exit ?_
      | refine V_block_x rfl ?_
      | refine V_seq_x ?_
      | refine V_loop_x ?_
      | refine WO_dst rfl rfl (by kernel_rfl) (by kernel_rfl) ?_
      | refine Ev_len rfl rfl rfl rfl rfl hv1.len ?_
      | refine Ev_move rfl ?_
      | refine Ev_assign rfl ?_
      | refine Ev_lssN rfl rfl ?_
      | (refine W_cond rfl (fun hc => ?_) (fun hc => ?_) <;> (try dsimp only at hc) <;> try (exfalso; first | omega | exact hc rfl)))
  · have hlt : i < cs.length := by assumption
    obtain ⟨c, hc⟩ : ∃ c, c = cs[i] := ⟨_, rfl⟩
    have hcm : c ∈ cs := by rw [hc]; exact List.getElem_mem _
    obtain ⟨hcg, hb1, hb2, hb3⟩ := hgood c hcm
    have hcell := cellsC_get cs i hlt
    rw [← hc] at hcell
    have hnext : (cs.take (i + 1)).flatMap constL = (cs.take i).flatMap constL ++ constL c := by
      rw [List.take_succ_eq_append_getElem hlt, List.flatMap_append, ← hc]; simp
    have hallc : rightP c → ∀ d ∈ cs.take (i + 1), rightP d := fun hr d hd => by
      rw [List.take_succ_eq_append_getElem hlt] at hd
      rcases List.mem_append.1 hd with h | h
      · exact hall d h
      · rw [List.mem_singleton] at h; rw [h, ← hc]; exact hr
    obtain ⟨L, hLe⟩ : ∃ L, L = numL (cs.length : Int) 2 ++ (cs.take i).flatMap constL := ⟨_, rfl⟩
    have hLn : numL (cs.length : Int) 2 ++ (cs.take (i + 1)).flatMap constL = L ++ constL c := by rw [hnext, ← List.append_assoc, ← hLe]
    rw [← hLe] at how hL
    refine Ev_indexAddr_rd rfl rfl rfl rfl rfl hv1 hlt ?_
    intro q hq
    repeat (
      refine WO_dst rfl rfl (by kernel_rfl) (by kernel_rfl) ?_)
    refine Ev_load_pt_agg rfl rfl rfl hq (by rw [cellsC_len]; dsimp only; omega) hcell (CnA.veqs c) ?_
    repeat (
      refine WO_dst rfl rfl (by kernel_rfl) (by kernel_rfl) ?_)
    refine Ev_alloc_ rfl hF.ok (by omega) ?_
    intro T3 gn3 gok3 gq3 gf3
    repeat (
      refine WO_no rfl rfl ?_)
    refine Ev_store rfl rfl rfl rfl (CnA.ones c) gq3 (by simp [CnA.cells, AV.cells]) (by omega) ?_
    intro T4 gn4 gq4 gf4
    have hF4 : Fr T T4 .nils 1 := ⟨by omega, by omega, sok_upd gok3 (by omega) gn4 gq4 gf4, fun c _ h => by rw [gf4 c (by omega), gf3 c h]⟩
    have hb4 : T4.h.get T.n = some (.cells 24 c.cells false) := gq4
    have how4 := how.keep (fun d hd => hF4.same d (by simp [blkOf]) (how.lt hF.ok hd))
    repeat (
      first
        | refine W_seq ?_
        | refine WO_nil ?_
        | refine V_seq ?_
        | refine W_region ?_
        | refine WO_dst rfl rfl (by kernel_rfl) (by kernel_rfl) ?_)
    refine Ev_load_agg rfl rfl rfl hb4 (by simp [CnA.cells]) (show (c.cells.drop 0).take 5 = c.cells from rfl) (CnA.veqs c) ?_
    repeat (
      refine WO_dst rfl rfl (by kernel_rfl) (by kernel_rfl) ?_)
    refine Ev_call rfl rfl ((rright_runs hF4.ok ⟨hb1, hb2, hb3⟩ (by omega)).mono ?_)
    rintro _ T5 - ⟨rfl, hF5⟩
    have gn5 := hF5.n
    have gl5 := hF5.le
    have hb5 : T5.h.get T.n = some (.cells 24 c.cells false) := by rw [hF5.same T.n (by simp [blkOf]) (by omega)]; exact hb4
    have how5 := how4.keep (fun d hd => hF5.same d (by simp [blkOf]) (how4.lt hF4.ok hd))
    have hS5 : ∀ d, d < S.n → T5.h.get d = S.h.get d := fun d h => by rw [hF5.same d (by simp [blkOf]) (by omega), hF4.same d (by simp [blkOf]) (by omega), hF.same d (by simp [blkOf]) h]
    repeat' (
      first
        | refine W_seq ?_
        | refine WO_nil ?_
        | refine V_seq ?_
        | refine W_region ?_
        | refine W_skip ?_
        | refine W_ret ?_
        | refine V_ret ?_
        | refine WO_dst rfl rfl (by kernel_rfl) (by kernel_rfl) ?_
        | refine Ev_move rfl ?_
        | refine Ev_assign rfl ?_
        | refine Ev_not rfl ?_
        | refine Ev_fieldAddr rfl rfl rfl rfl rfl rfl ?_
        | (refine W_cond rfl (fun hc => ?_) (fun hc => ?_) <;> (try dsimp only at hc) <;> try (exfalso; first | omega | exact hc rfl)))
    · have hr : ¬ rightP c := by assumption
      have e : writeE cs = 14 := by unfold writeE; rw [if_neg (by omega), if_neg (fun h => hr (h c hcm))]
      refine V_done rfl rfl ⟨.nils, by rw [e]; rfl, ⟨by omega, by omega, hF5.ok, fun d _ h => hS5 d h⟩, ?_, fun c hc => by cases hc⟩
      rw [e]; exact .inl ⟨rfl, rfl, rfl⟩
    have hr : rightP c := by first | assumption | exact Classical.not_not.1 (by assumption)
    have hcl := right_len hr
    refine Ev_load rfl rfl rfl hb5 rfl (veq_int _ _) ?_
    repeat (
      refine WO_dst rfl rfl (by kernel_rfl) (by kernel_rfl) ?_)
    refine Ev_conv8i rfl rfl rfl rfl rfl ?_
    repeat (
      refine WO_dst rfl rfl (by kernel_rfl) (by kernel_rfl) ?_)
    refine Ev_buildSlice rfl rfl rfl rfl rfl rfl hF5.ok (by omega) ?_
    intro T6 gn6 gok6 gq6 gf6
    have how6 := how5.keep (fun d hd => gf6 d (how5.lt hF5.ok hd))
    have hrd6 : Rd T6 (.slice T5.n 0 1 (.ex 1)) 1 (sbytes (numL c.kind 1)) 1 := by rw [kind_byte]; exact Rd_lit gq6 rfl rfl
    repeat (
      refine WO_dst rfl rfl (by kernel_rfl) (by kernel_rfl) ?_)
    refine Ev_append rfl rfl rfl rfl rfl rfl rfl rfl rfl rfl how6 hrd6 (sbytes_one _) gok6 (by omega) (by dsimp only; omega) (by omega) ?_
    intro w7 T7 g1 g2 g3 g4 g5 g6
    have how7 : Ow T7 w7 (L ++ numL c.kind 1) := g4.eq (by unfold sbytes; rw [List.map_append]) (by rw [List.length_append, numL_len])
    have hbk7 : ∀ d, blkOf w7 = some d → S.n ≤ d := fun d hd => by
      rcases g6 d hd with g | g
      · exact hbk d g
      · omega
    have hwT : ∀ d, blkOf w = some d → d < T.n := fun d hd => how.lt hF.ok hd
    have hb7 : T7.h.get T.n = some (.cells 24 c.cells false) := by rw [g5 T.n (fun e => by have := hwT _ e; omega) (by omega), gf6 _ (by omega)]; exact hb5
    have hS7 : ∀ d, d < S.n → T7.h.get d = S.h.get d := fun d h => by rw [g5 d (fun e => by have := hbk d e; omega) (by omega), gf6 d (by omega)]; exact hS5 d h
    repeat' (
      first
        | refine W_seq ?_
        | refine WO_nil ?_
        | refine V_seq ?_
        | refine W_region ?_
        | refine W_block ?_
        | refine WO_dst rfl rfl (by kernel_rfl) (by kernel_rfl) ?_
        | refine Ev_load rfl rfl rfl hb7 rfl (veq_int _ _) ?_
        | refine Ev_move rfl ?_
        | refine Ev_assign rfl ?_
        | refine Ev_eql rfl rfl ?_
        | refine Ev_fieldAddr rfl rfl rfl rfl rfl rfl ?_
        | (refine W_cond rfl (fun hc => ?_) (fun hc => ?_) <;> (try dsimp only at hc) <;> try (exfalso; first | omega | exact hc rfl)))
    · have hn1 := hcg.n1
      have hn2 := hcg.n2
      have e : constL c = numL c.kind 1 ++ numL c.n 4 := constL_3' (by assumption)
      refine Ev_conv (k' := .i64) rfl rfl rfl rfl rfl (by simp only [inR]; omega) ?_
      repeat (
        refine WO_dst rfl rfl (by kernel_rfl) (by kernel_rfl) ?_)
      refine Ev_call rfl rfl ((rnumber_runs g3 how7.rd (by simp only [List.length_append, numL_len]; omega) (by omega)).mono ?_)
      rintro w8 T8 - ⟨hF8, how8, hbk8⟩
      rw [size4, List.append_assoc, ← e] at how8
      have gn8 := hF8.n
      have gl8 := hF8.le
      repeat' (
        first
          | refine WO_nil ?_
          | refine V_seq ?_
          | refine W_region ?_
          | refine V_block ?_
          | refine WO_dst rfl rfl (by kernel_rfl) (by kernel_rfl) ?_
          | refine Ev_move rfl ?_
          | refine Ev_assign rfl ?_
          | refine Ev_addN rfl rfl (by simp only [lim]; omega) ?_)
      refine back (i + 1, w8) T8 _ (by dsimp only; omega) ⟨⟨by omega, by dsimp only; omega, hF8.ok, fun d _ h => by rw [hF8.same d (by simp [blkOf]) (by omega), hS7 d h]⟩, ?_, fun d hd => by have := hbk8 d hd; omega, by dsimp only; omega, hallc hr⟩ ⟨rfl, rfl, rfl, trivial⟩
      dsimp only
      rw [hLn]; exact how8
    · have e : constL c = numL c.kind 1 ++ textL c.cl := constL_7' (by assumption)
      refine Ev_load rfl rfl rfl hb7 rfl (veq_str _) ?_
      repeat (
        refine WO_dst rfl rfl (by kernel_rfl) (by kernel_rfl) ?_)
      refine Ev_call rfl rfl ((rtext_runs g3 how7.rd hcg.cl.2 (by omega) (by simp only [List.length_append, numL_len]; omega) (by omega)).mono ?_)
      rintro w8 T8 - ⟨hF8, how8, hbk8⟩
      rw [List.append_assoc, ← e] at how8
      have gn8 := hF8.n
      have gl8 := hF8.le
      repeat' (
        first
          | refine WO_nil ?_
          | refine V_seq ?_
          | refine W_region ?_
          | refine V_block ?_
          | refine WO_dst rfl rfl (by kernel_rfl) (by kernel_rfl) ?_
          | refine Ev_move rfl ?_
          | refine Ev_assign rfl ?_
          | refine Ev_addN rfl rfl (by simp only [lim]; omega) ?_)
      refine back (i + 1, w8) T8 _ (by dsimp only; omega) ⟨⟨by omega, by dsimp only; omega, hF8.ok, fun d _ h => by rw [hF8.same d (by simp [blkOf]) (by omega), hS7 d h]⟩, ?_, fun d hd => by have := hbk8 d hd; omega, by dsimp only; omega, hallc hr⟩ ⟨rfl, rfl, rfl, trivial⟩
      dsimp only
      rw [hLn]; exact how8
    · have hk : c.kind = 9 ∨ c.kind = 10 := by
        rcases hr with h | h | h | h <;> omega
      have e : constL c = numL c.kind 1 ++ (textL c.cl ++ (textL c.nm ++ textL c.ds)) := constL_9' hk
      refine W_drawnF [⟨T.n, .cells 24 c.cells false, none⟩] ?_ (by kernel_rfl) ?_
      · intro f hf; rw [List.mem_singleton] at hf; subst hf; exact ⟨rfl, by show T.n < T7.n; omega, hb7⟩
      have hD7 : ∀ f ∈ [(⟨T.n, .cells 24 c.cells false, none⟩ : Fct)], T7.h.get f.id = some f.x := by
        intro f hf; rw [List.mem_singleton] at hf; subst hf; exact hb7
      have ht1 := textL_len c.cl
      have ht2 := textL_len c.nm
      repeat (
        first
          | refine WF_pa rfl rfl (by kernel_rfl) (by kernel_rfl) rfl ?_
          | refine Ev_move rfl ?_
          | refine Ev_fieldAddr rfl rfl rfl rfl rfl rfl ?_)
      refine WF_rf rfl rfl (by kernel_rfl) (by kernel_rfl) hD7 (FPD_load (o := 2) rfl rfl rfl (pt_of hb7) rfl (fun b hb => by cases hb; exact ⟨_, List.mem_cons_self .., rfl, hb7, fun j hj => by cases hj⟩)) (veq_str _) ?_
      repeat (
        refine W_seq ?_)
      refine WF_ld rfl rfl (by kernel_rfl) (by kernel_rfl) (fun _ _ => rfl) ?_
      refine Ev_call rfl rfl ((rtext_runs g3 how7.rd hcg.cl.2 (by omega) (by simp only [List.length_append, numL_len]; omega) (by omega)).mono ?_)
      rintro w8 T8 - ⟨hF8, how8, hbk8⟩
      have gn8 := hF8.n
      have gl8 := hF8.le
      have hb8 : T8.h.get T.n = some (.cells 24 c.cells false) := by rw [hF8.same T.n (by simp [blkOf]) (by omega)]; exact hb7
      have hD8 : ∀ f ∈ [(⟨T.n, .cells 24 c.cells false, none⟩ : Fct)], T8.h.get f.id = some f.x := by
        intro f hf; rw [List.mem_singleton] at hf; subst hf; exact hb8
      refine ⟨hD8, [], by simp, ?_⟩
      repeat (
        first
          | refine WF_pa rfl rfl (by kernel_rfl) (by kernel_rfl) rfl ?_
          | refine Ev_fieldAddr rfl rfl rfl rfl rfl rfl ?_)
      refine WF_rf rfl rfl (by kernel_rfl) (by kernel_rfl) (fun f hf => hD8 f (by simpa using hf)) (FPD_load (o := 3) rfl rfl rfl (pt_of hb8) rfl (fun b hb => by cases hb; exact ⟨_, List.mem_cons_self .., rfl, hb8, fun j hj => by cases hj⟩)) (veq_str _) ?_
      repeat (
        refine W_seq ?_)
      refine WF_ld rfl rfl (by kernel_rfl) (by kernel_rfl) (fun _ _ => rfl) ?_
      refine Ev_call rfl rfl ((rtext_runs hF8.ok how8.rd hcg.nm.2 (by omega) (by simp only [List.length_append, numL_len]; omega) (by omega)).mono ?_)
      rintro w9 T9 - ⟨hF9, how9, hbk9⟩
      have gn9 := hF9.n
      have gl9 := hF9.le
      have hb9 : T9.h.get T.n = some (.cells 24 c.cells false) := by rw [hF9.same T.n (by simp [blkOf]) (by omega)]; exact hb8
      have hD9 : ∀ f ∈ [(⟨T.n, .cells 24 c.cells false, none⟩ : Fct)], T9.h.get f.id = some f.x := by
        intro f hf; rw [List.mem_singleton] at hf; subst hf; exact hb9
      refine ⟨fun f hf => hD9 f (by simpa using hf), [], by simp, ?_⟩
      repeat (
        first
          | refine WF_pa rfl rfl (by kernel_rfl) (by kernel_rfl) rfl ?_
          | refine Ev_fieldAddr rfl rfl rfl rfl rfl rfl ?_)
      refine WF_rf rfl rfl (by kernel_rfl) (by kernel_rfl) (fun f hf => hD9 f (by simpa using hf)) (FPD_load (o := 4) rfl rfl rfl (pt_of hb9) rfl (fun b hb => by cases hb; exact ⟨_, List.mem_cons_self .., rfl, hb9, fun j hj => by cases hj⟩)) (veq_str _) ?_
      repeat (
        refine W_seq ?_)
      refine WF_ld rfl rfl (by kernel_rfl) (by kernel_rfl) (fun _ _ => rfl) ?_
      refine Ev_call rfl rfl ((rtext_runs hF9.ok how9.rd hcg.ds.2 (by omega) (by simp only [List.length_append, numL_len]; omega) (by omega)).mono ?_)
      rintro w10 T10 - ⟨hF10, how10, hbk10⟩
      have gn10 := hF10.n
      have gl10 := hF10.le
      refine ⟨fun f hf => ?_, [], by simp, ?_⟩
      · have hf2 : f ∈ [(⟨T.n, .cells 24 c.cells false, none⟩ : Fct)] := by simpa using hf
        rw [← hD9 f hf2, List.mem_singleton] at *
        rw [hf2]
        exact hF10.same T.n (by simp [blkOf]) (by omega)
      repeat' (
        first
          | refine WF_nil ?_
          | refine WF_pa rfl rfl (by kernel_rfl) (by kernel_rfl) rfl ?_
          | refine WO_nil ?_
          | refine V_seq ?_
          | refine W_region ?_
          | refine V_block ?_
          | refine WO_dst rfl rfl (by kernel_rfl) (by kernel_rfl) ?_
          | refine Ev_move rfl ?_
          | refine Ev_assign rfl ?_
          | refine Ev_addN rfl rfl (by simp only [lim]; omega) ?_)
      refine back (i + 1, w10) T10 _ (by dsimp only; omega) ⟨⟨by omega, by dsimp only; omega, hF10.ok, fun d _ h => by rw [hF10.same d (by simp [blkOf]) (by omega), hF9.same d (by simp [blkOf]) (by omega), hF8.same d (by simp [blkOf]) (by omega), hS7 d h]⟩, ?_, fun d hd => by have := hbk10 d hd; omega, by dsimp only; omega, hallc hr⟩ ⟨rfl, rfl, rfl, trivial⟩
      dsimp only
      rw [hLn, e]
      simp only [List.append_assoc] at how10 ⊢
      exact how10
  · have hi2 : i = cs.length := by omega
    have htk : cs.take i = cs := List.take_of_length_le (by omega)
    rw [htk] at how hall
    have e : writeE cs = 0 := by unfold writeE; rw [if_neg (by omega), if_pos hall]
    refine V_done rfl rfl ⟨w, by rw [e]; rfl, ⟨hF.le, by omega, hF.ok, hF.same⟩, ?_, hbk⟩
    rw [e, if_pos rfl]; exact how
end Go.Proofs.YthhbnnnokmefoaaDoor
/- carafebook.Within; rules for the rest and for xor. -/


namespace Go.Proofs.YthhbnnnokmefoaaDoor
open GX
set_option maxHeartbeats 8000000
section
variable {X : X} {l : L} {S : St} {R : AV → St → Prop} {x y : Go.Operand} {t u : Nat} {k : Go.IntKind} {a b : Int}
theorem Ev_rem (hx : od l x = some (.int k a)) (hy : od l y = some (.int k b)) (hb : b ≠ 0) (hR : R (.int k (a.tmod b)) S) : Ev X l S (.binOp .rem t x y u) R :=
  Ev_ibin hx hy ⟨by simp, by simp⟩ (by unfold ibin; dsimp only; rw [ieq_eq, show (b == 0) = false by simpa using hb]; rfl) hR
theorem xor_u8 (a b : Int) : ∃ z : Nat, z < 256 ∧ ibits .u8 Nat.xor a b = (z : Int) := by
  unfold ibits
  obtain ⟨m, hm⟩ : ∃ m : Nat, m = Nat.xor (BitVec.ofInt (Go.IntKind.bits .u8) a).toNat (BitVec.ofInt (Go.IntKind.bits .u8) b).toNat := ⟨_, rfl⟩
  rw [← hm]
  refine ⟨m % 256, by omega, ?_⟩
  rw [← wrp_eq, wrp_u8]; omega
theorem Ev_xor8 (hx : od l x = some (.int .u8 a)) (hy : od l y = some (.int .u8 b)) (hR : ∀ z : Nat, z < 256 → R (.int .u8 (z : Int)) S) : Ev X l S (.binOp .xor t x y u) R := by
  obtain ⟨z, h1, h2⟩ := xor_u8 a b
  exact Ev_ibin hx hy ⟨by simp, by simp⟩ (by unfold ibin; dsimp only; rw [h2]) (hR z h1)
end
theorem tmod_in {a b : Int} (hb : 0 < b) : -b < a.tmod b ∧ a.tmod b < b := by
  have h1 : (a.tmod b).natAbs = a.natAbs % b.natAbs := Int.natAbs_tmod a b
  have h2 := Nat.mod_lt a.natAbs (show 0 < b.natAbs by omega)
  omega
theorem within_runs {S : St} {a : Int} {m : Nat} (hm : m ≤ 1000000000000) :
    Runs X1 27 [.int .i64 a, .int .i64 0, .int .i64 ((m : Nat) : Int)] S fun v S' => S' = S ∧ ∃ k : Nat, v = .int .i64 ((k : Nat) : Int) ∧ k ≤ m := by
  refine Runs_fn (m := 24) (by kernel_rfl) Tryd.func27 rfl (by kernel_rfl) (by kernel_rfl) ?_
  repeat (
    first
      | refine W_seq ?_
      | refine WO_nil ?_
      | refine V_seq ?_
      | refine W_region ?_
      | refine WO_dst rfl rfl (by kernel_rfl) (by kernel_rfl) ?_
      | refine Ev_move rfl ?_
      | refine Ev_assign rfl ?_
      | refine Ev_addN rfl rfl (by simp only [lim]; omega) ?_
      | refine Ev_subN rfl rfl (by simp only [lim]; omega) (by first | omega | (dsimp only; done) | (dsimp only; omega)) ?_)
  refine Ev_rem (b := ((m - 0 + 1 : Nat) : Int)) rfl rfl (by omega) ?_
  obtain ⟨z, hz⟩ : ∃ z, z = a.tmod ((m - 0 + 1 : Nat) : Int) := ⟨_, rfl⟩
  have hzz := tmod_in (a := a) (b := ((m - 0 + 1 : Nat) : Int)) (by omega)
  rw [← hz] at hzz ⊢
  repeat' (
    first
      | refine W_seq ?_
      | refine WO_nil ?_
      | refine V_seq ?_
      | refine W_region ?_
      | refine W_skip ?_
      | refine W_ret ?_
      | refine WO_dst rfl rfl (by kernel_rfl) (by kernel_rfl) ?_
      | refine Ev_move rfl ?_
      | refine Ev_assign rfl ?_
      | refine Ev_lss rfl rfl ?_
      | refine Ev_add rfl rfl (by simp only [inR]; omega) ?_
      | refine Ev_sub rfl rfl (by simp only [inR]; omega) ?_
      | (refine W_cond rfl (fun hc => ?_) (fun hc => ?_) <;> (try dsimp only at hc) <;> try (exfalso; first | omega | exact hc rfl)))
  · refine V_done rfl rfl ⟨rfl, (z + m + 1).toNat, ?_, by omega⟩
    show AV.int .i64 (0 + (z + (m : Int) - 0 + 1)) = _
    congr 1; omega
  · refine V_done rfl rfl ⟨rfl, z.toNat, ?_, by omega⟩
    show AV.int .i64 (0 + z) = _
    congr 1; omega
end Go.Proofs.YthhbnnnokmefoaaDoor
/- carafelaw3.PoolAdds. -/


namespace Go.Proofs.YthhbnnnokmefoaaDoor
open GX
set_option maxHeartbeats 16000000
theorem cellsC_take : ∀ (cs : List CnA) (i : Nat), (cellsC cs).take (i * 5) = cellsC (cs.take i)
  | [], i => by simp [cellsC]
  | c :: cs, 0 => by simp [cellsC]
  | c :: cs, i + 1 => by
    show (c.cells ++ cellsC cs).take ((i + 1) * 5) = c.cells ++ cellsC (cs.take i)
    rw [show (i + 1) * 5 = c.cells.length + i * 5 by simp [CnA.cells]; omega, List.take_length_add_append, cellsC_take cs i]
section
variable {X : X} {l : L} {S : St} {R : AV → St → Prop} {x y : Go.Operand} {t u : Nat}
theorem Ev_bneq {a b : Bool} {i : TI} (hx : od l x = some (.bool a)) (hy : od l y = some (.bool b)) (hi : X.ti t = some i) (hd : i.desc = .bool) (hR : R (.bool (!(a == b))) S) : Ev X l S (.binOp .neq t x y u) R :=
  Ev_bin hx hy rfl (by unfold abin; dsimp only; unfold aeq; rw [hi]; dsimp only; rw [hd]) hR
end
theorem rd_noblk {v : AV} {sz : Nat} {cs : List AV} {m : Nat} (h : ∀ S, Rd S v sz cs m) : blkOf v = none := by
  cases hb : blkOf v with
  | none => rfl
  | some b => exact absurd ((h { h := .leaf, n := 0 }).lt (by intro c x h; simp [Tr.get] at h) hb) (Nat.not_lt_zero _)
/-- what is kept behind some constants: the pool, and their numbers -/
def accS (l : List CnA) : Nat → List CnA × List Int
  | 0 => ([], [])
  | i + 1 => match l[i]? with
    | none => accS l i
    | some c => if rightP c then (match cidx c (accS l i).1 with | some n => ((accS l i).1, (accS l i).2 ++ [((n : Nat) : Int)]) | none => ((accS l i).1 ++ [c], (accS l i).2 ++ [(((accS l i).1.length : Nat) : Int)])) else ((accS l i).1, (accS l i).2 ++ [-1])
theorem accS_s {l : List CnA} {i : Nat} (h : i < l.length) : accS l (i + 1) = if rightP l[i] then (match cidx l[i] (accS l i).1 with | some n => ((accS l i).1, (accS l i).2 ++ [((n : Nat) : Int)]) | none => ((accS l i).1 ++ [l[i]], (accS l i).2 ++ [(((accS l i).1.length : Nat) : Int)])) else ((accS l i).1, (accS l i).2 ++ [-1]) := by
  show (match l[i]? with | none => accS l i | some c => _) = _
  rw [List.getElem?_eq_getElem h]
/-- where each constant is -/
def atOk (p : List CnA) (c : CnA) (n : Int) : Prop := (¬ rightP c ∧ n = -1) ∨ (rightP c ∧ ∃ m : Nat, n = (m : Int) ∧ cidx c p = some m)
theorem atOk_app {p q : List CnA} {c : CnA} {n : Int} (h : atOk p c n) : atOk (p ++ q) c n := by
  rcases h with h | ⟨h, m, h1, h2⟩
  · exact .inl h
  · exact .inr ⟨h, m, h1, cidx_app h2⟩
theorem accS_ok {l : List CnA} : ∀ (i : Nat), i ≤ l.length → (accS l i).1.length ≤ i ∧ (accS l i).2.length = i ∧ ∀ (j : Nat) (c : CnA) (n : Int), l[j]? = some c → (accS l i).2[j]? = some n → atOk (accS l i).1 c n
  | 0, _ => ⟨Nat.le_refl _, rfl, fun j c n _ h => by simp [accS] at h⟩
  | i + 1, h => by
    obtain ⟨h1, h2, h3⟩ := accS_ok (l := l) i (by omega)
    have hi : i < l.length := by omega
    have key : ∀ (q : List CnA) (z : Int), atOk ((accS l i).1 ++ q) l[i] z → ∀ (j : Nat) (c : CnA) (n : Int), l[j]? = some c → ((accS l i).2 ++ [z])[j]? = some n → atOk ((accS l i).1 ++ q) c n := by
      intro q z hz j c n hj hn
      by_cases hlt : j < i
      · rw [List.getElem?_append_left (by omega)] at hn
        exact atOk_app (h3 j c n hj hn)
      · have : j = i := by
          have := (List.getElem?_eq_some_iff.1 hn).1
          simp at this; omega
        subst this
        have hjl : (accS l j).2.length ≤ j := by rw [h2]; exact Nat.le_refl _
        rw [List.getElem?_append_right hjl, h2] at hn
        simp at hn
        rw [List.getElem?_eq_getElem hi] at hj
        cases hj; rw [← hn]; exact hz
    rw [accS_s hi]
    by_cases hr : rightP l[i]
    · rw [if_pos hr]
      cases hc : cidx l[i] (accS l i).1 with
      | some m =>
        refine ⟨by dsimp only; omega, by simp; exact h2, ?_⟩
        have := key [] ((m : Nat) : Int) (by rw [List.append_nil]; exact .inr ⟨hr, m, rfl, hc⟩)
        simpa using this
      | none =>
        refine ⟨by simp; omega, by simp; exact h2, ?_⟩
        exact key [l[i]] _ (.inr ⟨hr, _, rfl, cidx_snoc hc⟩)
    · rw [if_neg hr]
      refine ⟨by dsimp only; omega, by simp; exact h2, ?_⟩
      have := key [] (-1) (by rw [List.append_nil]; exact .inl ⟨hr, rfl⟩)
      simpa using this
def intsV (l : List Int) : List AV := l.map (AV.int .i64)
theorem intsV_get {l : List Int} {i : Nat} {n : Int} (h : l[i]? = some n) : (intsV l)[i * 1]? = some (.int .i64 n) := by
  unfold intsV; rw [Nat.mul_one, List.getElem?_map, h]; rfl
theorem known_true {S : St} {R : AV → St → Prop} (h : R (.bool true) S) : Runs X1 23 [] S R := Runs_ext (g := extTrue) rfl rfl (Nat.le_refl _) h
theorem adds_runs {S : St} {lv : AV} {cs : List CnA} (hok : Sok S) (hlv : ∀ S, Rd S lv 5 (cellsC cs) cs.length) (hgood : ∀ c ∈ cs, c.Good) (hn : S.n ≤ 1000) :
    Runs X1 5 [lv] S fun r _ => r = .bool true := by
  have hno := rd_noblk hlv
  refine Runs_fn (m := 132) (by kernel_rfl) Tryd.func5 rfl (by kernel_rfl) (by kernel_rfl) ?_
  repeat (
    first
      | refine W_seq ?_
      | refine WO_nil ?_
      | refine V_seq ?_
      | refine W_region ?_
      | refine W_block ?_
      | refine WO_dst rfl rfl (by kernel_rfl) (by kernel_rfl) ?_
      | refine Ev_assign rfl ?_)
  refine W_inv (fun a : Nat × AV × AV => [(5, .int .i64 ((a.1 : Nat) : Int)), (3, a.2.1), (4, a.2.2), (0, lv)]) (fun a T => Sok T ∧ a.1 ≤ 60 ∧ a.1 ≤ cs.length ∧ Cs T a.2.1 (accS cs a.1).1 ∧ Own T a.2.2 3 1 (intsV (accS cs a.1).2) a.1 ∧ (∀ b, blkOf a.2.1 = some b → blkOf a.2.2 ≠ some b) ∧ T.n ≤ 200 * a.1 + 2000) (fun a => 61 - a.1) ?_ (0, .nils, .nils) ⟨hok, by simp, by simp, ⟨rfl, rfl, rfl, rfl, rfl, rfl⟩, .inl ⟨rfl, rfl, rfl⟩, fun b h => (by cases h), by dsimp only; omega⟩ ⟨rfl, rfl, rfl, rfl, trivial⟩
  rintro ⟨i, pv, tv⟩ T ⟨hokT, hi, hil, hp, ht, hpt, hTn⟩ back
  dsimp only at hi hil hp ht hpt hTn back
  obtain ⟨ha1, ha2, ha3⟩ := accS_ok i hil
  repeat' (
    first
      | refine W_seq ?_
      | refine WO_nil ?_
      | refine V_seq ?_
      | refine W_region ?_
      | refine W_block ?_
      | refine W_skip ?_
      | refine W_exit ?_
      | refine V_block_x rfl ?_
      | refine V_seq_x ?_
      | refine V_loop_x ?_
      | refine W_cond_f rfl ?_
      | refine WO_dst rfl rfl (by kernel_rfl) (by kernel_rfl) ?_
      | refine WO_guard_t rfl rfl rfl rfl rfl (by kernel_rfl) (by kernel_rfl) ?_
      | refine WO_guard_f rfl rfl rfl rfl rfl rfl (by kernel_rfl) (by kernel_rfl) ?_
      | refine Ev_len rfl rfl rfl rfl rfl (hlv T).len ?_
      | refine Ev_move rfl ?_
      | refine Ev_assign rfl ?_
      | refine Ev_pick_t rfl rfl rfl ?_
      | refine Ev_pick_f rfl rfl rfl ?_
      | refine Ev_lssN rfl rfl ?_
      | (refine WO_guard_dt rfl rfl rfl rfl rfl (by kernel_rfl) (by kernel_rfl) (fun hg => ?_) (fun hg => ?_) <;> (try dsimp only at hg) <;> try (exfalso; first | omega | exact hg rfl))
      | (refine W_cond rfl (fun hc => ?_) (fun hc => ?_) <;> (try dsimp only at hc) <;> try (exfalso; first | omega | exact hc rfl)))
  · have hlt : i < cs.length := by assumption
    obtain ⟨c, hc⟩ : ∃ c, c = cs[i] := ⟨_, rfl⟩
    have hcg : c.Good := hgood c (by rw [hc]; exact List.getElem_mem _)
    have hcell := cellsC_get cs i hlt
    rw [← hc] at hcell
    have hacc := accS_s hlt
    rw [← hc] at hacc
    repeat (
      first
        | refine WO_dst rfl rfl (by kernel_rfl) (by kernel_rfl) ?_
        | refine Ev_indexAddr_n rfl rfl rfl rfl rfl (hlv T) hno hlt ?_
        | refine Ev_load_pt_agg rfl rfl rfl (.inr rfl) (by rw [cellsC_len]; dsimp only; omega) hcell (CnA.veqs c) ?_)
    refine Ev_call rfl rfl ((add_runs hokT hp hcg (by omega) (by omega)).mono ?_)
    rintro _ T1 - ⟨hF1, q, rfl, hq, hbq⟩
    have gn1 := hF1.n
    have gl1 := hF1.le
    have hp1 := hp.keep (fun c h => hF1.same c (by simp [blkOf]) (hp.lt hokT h))
    have ht1 := ht.keep (fun c h => hF1.same c (by simp [blkOf]) (ht.lt hokT h))
    repeat (
      first
        | refine W_seq ?_
        | refine WO_nil ?_
        | refine V_seq ?_
        | refine W_region ?_
        | refine WO_dst rfl rfl (by kernel_rfl) (by kernel_rfl) ?_
        | refine Ev_indexAddr_n rfl rfl rfl rfl rfl (hlv T1) hno hlt ?_
        | refine Ev_load_pt_agg rfl rfl rfl (.inr rfl) (by rw [cellsC_len]; dsimp only; omega) hcell (CnA.veqs c) ?_
        | refine Ev_move rfl ?_
        | refine Ev_assign rfl ?_
        | refine Ev_extract rfl rfl ?_
        | refine Ev_eql rfl rfl ?_)
    refine Ev_call rfl rfl ((right_runs hF1.ok hcg (by omega)).mono ?_)
    rintro _ T2 - ⟨rfl, hF2⟩
    have gn2 := hF2.n
    have gl2 := hF2.le
    have hp2 := hp1.keep (fun c h => hF2.same c (by simp [blkOf]) (hp1.lt hF1.ok h))
    have ht2 := ht1.keep (fun c h => hF2.same c (by simp [blkOf]) (ht1.lt hF1.ok h))
    have hq2 := hq.rd.keep (fun c h => hF2.same c (by simp [blkOf]) (hq.lt hF1.ok h))
    by_cases hr : rightP c
    · rw [decide_eq_true hr]
      rw [if_pos hr] at hacc
      have hx : ∃ n : Int, accS cs (i + 1) = ((addS (accS cs i).1 c).1, (accS cs i).2 ++ [n]) ∧ (addS (accS cs i).1 c).2 = (n, 0) ∧ (addS (accS cs i).1 c).1.take (accS cs i).1.length = (accS cs i).1 ∧ (accS cs i).1.length ≤ (addS (accS cs i).1 c).1.length := by
        unfold addS
        rw [if_pos hr]
        cases hci : cidx c (accS cs i).1 with
        | some m => rw [hci] at hacc; exact ⟨_, hacc, rfl, List.take_length, Nat.le_refl _⟩
        | none =>
          rw [hci] at hacc
          dsimp only
          rw [if_neg (by omega)]
          exact ⟨_, hacc, rfl, by simp, by simp⟩
      obtain ⟨n, hx1, hx2, hx3, hx4⟩ := hx
      rw [hx2]
      obtain ⟨Q, hQ⟩ : ∃ Q, Q = (addS (accS cs i).1 c).1 := ⟨_, rfl⟩
      rw [← hQ] at hx1 hx3 hx4 hq2
      have hbq2 : ∀ b, blkOf q = some b → T.n ≤ b := hbq
      have hQl : Q.length ≤ i + 1 := by
        have := (accS_ok (i + 1) (show i + 1 ≤ cs.length by omega)).1
        rw [hx1] at this; exact this
      repeat' (
        refine WO_dst rfl rfl (by kernel_rfl) (by kernel_rfl) ?_)
      refine Ev_bneq rfl rfl rfl rfl ?_
      repeat' (
        first
          | refine W_seq ?_
          | refine WO_nil ?_
          | refine V_seq ?_
          | refine W_region ?_
          | refine W_skip ?_
          | refine W_cond_f rfl ?_
          | refine WO_dst rfl rfl (by kernel_rfl) (by kernel_rfl) ?_
          | refine WO_guard_t rfl rfl rfl rfl rfl (by kernel_rfl) (by kernel_rfl) ?_
          | refine Ev_len rfl rfl rfl rfl rfl hq2.len ?_
          | refine Ev_len rfl rfl rfl rfl rfl hp2.len ?_
          | refine Ev_move rfl ?_
          | refine Ev_lssN rfl rfl ?_
          | refine Ev_neqN rfl rfl ?_
          | (refine WO_guard_df rfl rfl rfl rfl rfl (by kernel_rfl) (by kernel_rfl) (fun hg => ?_) (fun hg => ?_) <;> (try dsimp only at hg) <;> try (exfalso; first | omega | exact hg rfl)))
      refine Ev_slice_hi rfl rfl rfl rfl rfl hq2 hx4 ?_
      intro q' hq' _
      have hq3 : Cs T2 q' (accS cs i).1 := hq'.eq (by show (cellsC Q).take ((accS cs i).1.length * 5) = _; rw [cellsC_take, hx3]) rfl
      repeat (
        first
          | refine WO_dst rfl rfl (by kernel_rfl) (by kernel_rfl) ?_
          | refine WO_guard_t rfl rfl rfl rfl rfl (by kernel_rfl) (by kernel_rfl) ?_
          | refine Ev_move rfl ?_)
      refine Ev_call rfl rfl ((csame_runs hq3 hp2 ⟨by omega, by omega⟩).mono ?_)
      rintro _ _ - ⟨rfl, rfl⟩
      rename_i T2
      rw [decide_eq_true rfl]
      repeat' (
        first
          | refine W_seq ?_
          | refine WO_nil ?_
          | refine V_seq ?_
          | refine W_region ?_
          | refine W_skip ?_
          | refine W_cond_f rfl ?_
          | refine WO_dst rfl rfl (by kernel_rfl) (by kernel_rfl) ?_
          | refine WO_guard_t rfl rfl rfl rfl rfl (by kernel_rfl) (by kernel_rfl) ?_
          | refine Ev_move rfl ?_
          | refine Ev_assign rfl ?_
          | refine Ev_pick_f rfl rfl rfl ?_
          | refine Ev_notb rfl ?_)
      refine Ev_buildSlice rfl rfl rfl rfl rfl rfl hF2.ok (by omega) ?_
      intro T3 gn3 gok3 gq3 gf3
      have ht3 := ht2.keep (fun c h => gf3 c (ht2.lt hF2.ok h))
      have hq4 := hq2.keep (fun c h => gf3 c (hq2.lt hF2.ok h))
      have hrd : Rd T3 (.slice T2.n 0 1 (.ex 1)) 1 [.int .i64 n] 1 := Rd_lit gq3 rfl rfl
      repeat (
        refine WO_dst rfl rfl (by kernel_rfl) (by kernel_rfl) ?_)
      refine Ev_append rfl rfl rfl rfl rfl rfl rfl rfl rfl rfl ht3 hrd (by simp [AV.one]) gok3 (by omega) (by dsimp only; omega) (by omega) ?_
      intro w5 T5 gl5 gn5 gok5 ht5 gf5 gb5
      have hqt : ∀ b, blkOf q = some b → blkOf tv ≠ some b := fun b h1 h2 => by
        have := hbq2 b h1
        have := ht.lt hokT h2
        omega
      have hq5 := hq4.keep (fun b h => gf5 b (hqt b h) (hq4.lt gok3 h))
      repeat (
        first
          | refine WO_nil ?_
          | refine V_seq ?_
          | refine W_region ?_
          | refine V_block ?_
          | refine WO_dst rfl rfl (by kernel_rfl) (by kernel_rfl) ?_
          | refine Ev_move rfl ?_
          | refine Ev_assign rfl ?_
          | refine Ev_addN rfl rfl (by simp only [lim]; omega) ?_)
      refine back (i + 1, q, w5) T5 _ (by dsimp only; omega) ⟨gok5, by dsimp only; omega, by dsimp only; omega, ?_, ?_, fun b h1 h2 => ?_, by dsimp only; omega⟩ ⟨rfl, rfl, rfl, rfl, trivial⟩
      · dsimp only; rw [hx1]; exact hq5
      · dsimp only; rw [hx1]
        exact ht5.eq (by unfold intsV; simp) rfl
      · rcases gb5 b h2 with h | h
        · exact hqt b h1 h
        · have := hq4.lt gok3 h1; omega
    · have e : addS (accS cs i).1 c = ([], 0, 14) := by unfold addS; rw [if_neg hr]
      rw [if_neg hr] at hacc
      rw [decide_eq_false hr, e]
      repeat' (
        refine WO_dst rfl rfl (by kernel_rfl) (by kernel_rfl) ?_)
      refine Ev_bneq rfl rfl rfl rfl ?_
      repeat' (
        first
          | refine W_seq ?_
          | refine WO_nil ?_
          | refine V_seq ?_
          | refine W_region ?_
          | refine W_skip ?_
          | refine W_cond_t rfl ?_
          | refine W_cond_f rfl ?_
          | refine WO_dst rfl rfl (by kernel_rfl) (by kernel_rfl) ?_
          | refine Ev_move rfl ?_
          | refine Ev_neqN rfl rfl ?_)
      refine Ev_buildSlice rfl rfl rfl rfl rfl rfl hF2.ok (by omega) ?_
      intro T3 gn3 gok3 gq3 gf3
      have ht3 := ht2.keep (fun c h => gf3 c (ht2.lt hF2.ok h))
      have hp3 := hp2.keep (fun c h => gf3 c (hp2.lt hF2.ok h))
      have hrd : Rd T3 (.slice T2.n 0 1 (.ex 1)) 1 [.int .i64 (-1)] 1 := Rd_lit gq3 rfl rfl
      repeat (
        refine WO_dst rfl rfl (by kernel_rfl) (by kernel_rfl) ?_)
      refine Ev_append rfl rfl rfl rfl rfl rfl rfl rfl rfl rfl ht3 hrd (by simp [AV.one]) gok3 (by omega) (by dsimp only; omega) (by omega) ?_
      intro w5 T5 gl5 gn5 gok5 ht5 gf5 gb5
      have hp5 := hp3.keep (fun b h => gf5 b (hpt b h) (hp3.lt gok3 h))
      repeat' (
        first
          | refine WO_nil ?_
          | refine V_seq ?_
          | refine W_region ?_
          | refine W_exit ?_
          | refine V_block_x rfl ?_
          | refine V_seq_x ?_
          | refine WO_dst rfl rfl (by kernel_rfl) (by kernel_rfl) ?_
          | refine Ev_move rfl ?_
          | refine Ev_assign rfl ?_
          | refine Ev_addN rfl rfl (by simp only [lim]; omega) ?_)
      refine back (i + 1, pv, w5) T5 _ (by dsimp only; omega) ⟨gok5, by dsimp only; omega, by dsimp only; omega, ?_, ?_, fun b h1 h2 => ?_, by dsimp only; omega⟩ ⟨rfl, rfl, rfl, rfl, trivial⟩
      · dsimp only; rw [hacc]; exact hp5
      · dsimp only; rw [hacc]
        exact ht5.eq (by unfold intsV; simp) rfl
      · rcases gb5 b h2 with h | h
        · exact hpt b h1 h
        · have := hp3.lt gok3 h1; omega
  all_goals
    have hm : i = cs.length ∨ i = 60 := by omega
    obtain ⟨P, hP⟩ : ∃ P, P = (accS cs i).1 := ⟨_, rfl⟩
    obtain ⟨A, hA⟩ : ∃ A, A = (accS cs i).2 := ⟨_, rfl⟩
    rw [← hP] at ha1 ha3 hp
    rw [← hA] at ha2 ha3 ht
    refine W_inv (fun j : Nat => [(9, .int .i64 ((j : Nat) : Int)), (3, pv), (4, tv), (0, lv)]) (fun j U => Sok U ∧ j ≤ i ∧ Cs U pv P ∧ Own U tv 3 1 (intsV A) i ∧ U.n ≤ 200 * j + 20000) (fun j => i - j) ?_ 0 ⟨hokT, by omega, hp, ht, by omega⟩ ⟨rfl, rfl, rfl, rfl, trivial⟩
    rintro j U ⟨hokU, hj, hpU, htU, hUn⟩ back2
    repeat' (
      first
        | refine W_seq ?_
        | refine WO_nil ?_
        | refine V_seq ?_
        | refine W_region ?_
        | refine W_block ?_
        | refine W_skip ?_
        | refine W_exit ?_
        | refine V_block_x rfl ?_
        | refine V_seq_x ?_
        | refine V_loop_x ?_
        | refine WO_dst rfl rfl (by kernel_rfl) (by kernel_rfl) ?_
        | refine Ev_len rfl rfl rfl rfl rfl htU.rd.len ?_
        | refine Ev_move rfl ?_
        | refine Ev_lssN rfl rfl ?_
        | (refine W_cond rfl (fun hc => ?_) (fun hc => ?_) <;> (try dsimp only at hc) <;> try (exfalso; first | omega | exact hc rfl)))
    · have hji : j < i := by assumption
      have hlt : j < cs.length := by omega
      obtain ⟨c, hc⟩ : ∃ c, c = cs[j] := ⟨_, rfl⟩
      have hcg : c.Good := hgood c (by rw [hc]; exact List.getElem_mem _)
      have hcell := cellsC_get cs j hlt
      rw [← hc] at hcell
      obtain ⟨n, hn2⟩ : ∃ n, A[j]? = some n := ⟨A[j]'(by omega), List.getElem?_eq_getElem (by omega)⟩
      have hat := ha3 j c n (by rw [hc]; exact List.getElem?_eq_getElem hlt) hn2
      refine Ev_indexAddr_rd rfl rfl rfl rfl rfl htU.rd hji ?_
      intro q1 hq1
      repeat (
        refine WO_dst rfl rfl (by kernel_rfl) (by kernel_rfl) ?_)
      refine Ev_load_pt rfl rfl rfl hq1 (intsV_get hn2) (veq_int _ _) ?_
      rcases hat with ⟨hr, rfl⟩ | ⟨hr, m, rfl, hci⟩
      · repeat' (
          first
            | refine WO_nil ?_
            | refine V_seq ?_
            | refine W_region ?_
            | refine W_exit ?_
            | refine V_block_x rfl ?_
            | refine V_seq_x ?_
            | refine W_cond_t rfl ?_
            | refine WO_dst rfl rfl (by kernel_rfl) (by kernel_rfl) ?_
            | refine Ev_move rfl ?_
            | refine Ev_assign rfl ?_
            | refine Ev_lss rfl rfl ?_
            | refine Ev_addN rfl rfl (by simp only [lim]; omega) ?_)
        exact back2 (j + 1) U _ (by omega) ⟨hokU, by omega, hpU, htU, by omega⟩ ⟨rfl, rfl, rfl, rfl, trivial⟩
      · repeat' (
          first
            | refine W_seq ?_
            | refine WO_nil ?_
            | refine V_seq ?_
            | refine W_drawn (by kernel_rfl) ?_
            | refine W_skip ?_
            | refine W_cond_f rfl ?_
            | refine WO_dst rfl rfl (by kernel_rfl) (by kernel_rfl) ?_
            | refine Ev_move rfl ?_
            | refine Ev_lssN rfl rfl ?_)
        refine Ev_indexAddr_rd rfl rfl rfl rfl rfl htU.rd hji ?_
        intro q2 hq2
        repeat (
          refine WO_dst rfl rfl (by kernel_rfl) (by kernel_rfl) ?_)
        refine Ev_load_pt rfl rfl rfl hq2 (intsV_get hn2) (veq_int _ _) ?_
        repeat (
          first
            | refine WO_dst rfl rfl (by kernel_rfl) (by kernel_rfl) ?_
            | refine Ev_indexAddr_n rfl rfl rfl rfl rfl (hlv U) hno hlt ?_
            | refine Ev_fieldAddr_n rfl rfl rfl rfl rfl rfl ?_
            | refine Ev_move rfl ?_)
        refine Ev_load_pt (v := .int .i64 c.kind) rfl rfl rfl (.inr rfl) (cellsC_at hlt (by decide) (by rw [← hc]; rfl)) (veq_int _ _) ?_
        repeat (
          refine WO_dst rfl rfl (by kernel_rfl) (by kernel_rfl) ?_)
        refine Ev_call rfl rfl ((get_runs hokU hpU (by omega) (by omega)).mono ?_)
        rintro _ U1 - ⟨rfl, hG1⟩
        have hPm := cidx_get hci
        obtain ⟨hml, hPm2⟩ := List.getElem?_eq_some_iff.1 hPm
        have hget : getS P ((m : Nat) : Int) c.kind = (c, 0) := by rw [getS_hit hml, hPm2, if_pos rfl]
        rw [hget]
        have un1 := hG1.n
        have ul1 := hG1.le
        have hp1 := hpU.keep (fun c h => hG1.same c (by simp [blkOf]) (hpU.lt hokU h))
        have ht1 := htU.keep (fun c h => hG1.same c (by simp [blkOf]) (htU.lt hokU h))
        repeat (
          first
            | refine WO_dst rfl rfl (by kernel_rfl) (by kernel_rfl) ?_
            | refine Ev_move rfl ?_
            | refine Ev_extract rfl rfl ?_)
        refine Ev_alloc_ rfl hG1.ok (by omega) ?_
        intro U2 un2 uok2 uq2 uf2
        repeat (
          refine WO_no rfl rfl ?_)
        refine Ev_store rfl rfl rfl rfl (CnA.ones c) uq2 (by simp [CnA.cells, AV.cells]) (by omega) ?_
        intro U3 un3 uq3 uf3
        have hG3 : Fr U1 U3 .nils 1 := ⟨by omega, by omega, sok_upd uok2 (by omega) un3 uq3 uf3, fun c _ h => by rw [uf3 c (by omega), uf2 c h]⟩
        have hp3 := hp1.keep (fun c h => hG3.same c (by simp [blkOf]) (hp1.lt hG1.ok h))
        have ht3 := ht1.keep (fun c h => hG3.same c (by simp [blkOf]) (ht1.lt hG1.ok h))
        have hb3 : U3.h.get U1.n = some (.cells 24 c.cells false) := uq3
        repeat (
          first
            | refine W_seq ?_
            | refine WO_nil ?_
            | refine V_seq ?_
            | refine W_region ?_
            | refine WO_dst rfl rfl (by kernel_rfl) (by kernel_rfl) ?_
            | refine Ev_indexAddr_n rfl rfl rfl rfl rfl (hlv U3) hno hlt ?_
            | refine Ev_load_pt_agg rfl rfl rfl (.inr rfl) (by rw [cellsC_len]; dsimp only; omega) hcell (CnA.veqs c) ?_
            | refine Ev_move rfl ?_
            | refine Ev_assign rfl ?_)
        refine Ev_call rfl rfl ((add_runs hG3.ok hp3 hcg (by omega) (by omega)).mono ?_)
        rintro _ U4 - ⟨hG4, w, rfl, hw, -⟩
        have hadd : addS P c = (P, ((m : Nat) : Int), 0) := by unfold addS; rw [if_pos hr, hci]
        rw [hadd] at hw ⊢
        have un4 := hG4.n
        have ul4 := hG4.le
        have hp4 := hp3.keep (fun c h => hG4.same c (by simp [blkOf]) (hp3.lt hG3.ok h))
        have ht4 := ht3.keep (fun c h => hG4.same c (by simp [blkOf]) (ht3.lt hG3.ok h))
        have hb4 : U4.h.get U1.n = some (.cells 24 c.cells false) := by rw [hG4.same U1.n (by simp [blkOf]) (by omega)]; exact hb3
        repeat' (
          first
            | refine W_seq ?_
            | refine WO_nil ?_
            | refine V_seq ?_
            | refine W_drawn (by kernel_rfl) ?_
            | refine WO_dst rfl rfl (by kernel_rfl) (by kernel_rfl) ?_
            | refine WO_guard_t rfl rfl rfl rfl rfl (by kernel_rfl) (by kernel_rfl) ?_
            | refine Ev_move rfl ?_
            | refine Ev_assign rfl ?_
            | refine Ev_extract rfl rfl ?_
            | refine Ev_neqN rfl rfl ?_)
        refine Ev_load_agg rfl rfl rfl hb4 (by simp [CnA.cells]) (show (c.cells.drop 0).take 5 = c.cells from rfl) (CnA.veqs c) ?_
        repeat' (
          first
            | refine WO_dst rfl rfl (by kernel_rfl) (by kernel_rfl) ?_
            | refine WO_guard_t rfl rfl rfl rfl rfl (by kernel_rfl) (by kernel_rfl) ?_
            | refine Ev_indexAddr_n rfl rfl rfl rfl rfl (hlv U4) hno hlt ?_
            | refine Ev_load_pt_agg rfl rfl rfl (.inr rfl) (by rw [cellsC_len]; dsimp only; omega) hcell (CnA.veqs c) ?_
            | refine Ev_cneq rfl rfl ?_
            | refine Ev_move rfl ?_
            | refine Ev_pick_f rfl rfl rfl ?_
            | refine Ev_neqN rfl rfl ?_
            | (refine WO_guard_df rfl rfl rfl rfl rfl (by kernel_rfl) (by kernel_rfl) (fun hg => ?_) (fun hg => ?_) <;> (try dsimp only at hg) <;> try (exfalso; first | omega | exact hg rfl)))
        refine Ev_indexAddr_rd rfl rfl rfl rfl rfl ht4.rd hji ?_
        intro q5 hq5
        repeat' (
          first
            | refine WO_dst rfl rfl (by kernel_rfl) (by kernel_rfl) ?_
            | refine WO_guard_t rfl rfl rfl rfl rfl (by kernel_rfl) (by kernel_rfl) ?_)
        refine Ev_load_pt rfl rfl rfl hq5 (intsV_get hn2) (veq_int _ _) ?_
        repeat' (
          first
            | refine WO_nil ?_
            | refine V_seq ?_
            | refine W_region ?_
            | refine W_skip ?_
            | refine V_block ?_
            | refine WO_dst rfl rfl (by kernel_rfl) (by kernel_rfl) ?_
            | refine WO_guard_t rfl rfl rfl rfl rfl (by kernel_rfl) (by kernel_rfl) ?_
            | refine Ev_len rfl rfl rfl rfl rfl hw.rd.len ?_
            | refine Ev_len rfl rfl rfl rfl rfl hp4.len ?_
            | refine Ev_move rfl ?_
            | refine Ev_assign rfl ?_
            | refine Ev_pick_f rfl rfl rfl ?_
            | refine Ev_neqN rfl rfl ?_
            | refine Ev_addN rfl rfl (by simp only [lim]; omega) ?_
            | (refine WO_guard_df rfl rfl rfl rfl rfl (by kernel_rfl) (by kernel_rfl) (fun hg => ?_) (fun hg => ?_) <;> (try dsimp only at hg) <;> try (exfalso; first | omega | exact hg rfl))
            | (refine W_cond rfl (fun hc => ?_) (fun hc => ?_) <;> (try dsimp only at hc) <;> try (exfalso; first | omega | exact hc rfl)))
        exact back2 (j + 1) U4 _ (by omega) ⟨hG4.ok, by omega, hp4, ht4, by omega⟩ ⟨rfl, rfl, rfl, rfl, trivial⟩
    · refine Ev_call rfl rfl (known_true ?_)
      repeat (
        first
          | refine WO_nil ?_
          | refine V_seq ?_
          | refine W_ret ?_
          | refine WO_dst rfl rfl (by kernel_rfl) (by kernel_rfl) ?_
          | refine Ev_assign rfl ?_)
      refine V_done rfl rfl ?_
      rfl
end Go.Proofs.YthhbnnnokmefoaaDoor
/- carafelaw3.PoolAgain. -/



namespace Go.Proofs.YthhbnnnokmefoaaDoor
open GX
set_option maxHeartbeats 16000000
theorem textB_lt (s : List Nat) : ∀ b ∈ textB s, b < 256 := by
  unfold textB
  split
  · exact encS_lt
  · simp
theorem textL_lt (s : List Nat) : ∀ b ∈ textL s, b < 256 := by
  intro b hb
  unfold textL at hb
  rcases List.mem_append.1 hb with h | h
  · exact numL_lt _ _ b h
  · exact textB_lt s b h
theorem constL_lt (c : CnA) : ∀ b ∈ constL c, b < 256 := by
  intro b hb
  unfold constL at hb
  rcases List.mem_append.1 hb with h | h
  · exact numL_lt _ _ b h
  · split at h
    · exact numL_lt _ _ b h
    · split at h
      · simp only [List.mem_append] at h
        rcases h with h | h | h <;> exact textL_lt _ b h
      · exact textL_lt _ b h
theorem poolL_lt (cs : List CnA) : ∀ b ∈ poolL cs, b < 256 := by
  intro b hb
  unfold poolL at hb
  rcases List.mem_append.1 hb with h | h
  · exact numL_lt _ _ b h
  · obtain ⟨c, _, hc⟩ := List.mem_flatMap.1 h
    exact constL_lt c b hc
theorem poolL_len (cs : List CnA) : (poolL cs).length ≤ 2 + 800 * cs.length := by
  have := consts_len cs
  unfold poolL
  rw [List.length_append, numL_len]; omega
/-- the right ones among the first of some constants -/
def fineL (l : List CnA) (i : Nat) : List CnA := (l.take i).filter (fun c => decide (rightP c))
theorem fineL_s {l : List CnA} {i : Nat} (h : i < l.length) : fineL l (i + 1) = if rightP l[i] then fineL l i ++ [l[i]] else fineL l i := by
  unfold fineL
  rw [List.take_succ_eq_append_getElem h, List.filter_append]
  by_cases hr : rightP l[i]
  · rw [if_pos hr]; simp [hr]
  · rw [if_neg hr]; simp [hr]
theorem fineL_len (l : List CnA) (i : Nat) : (fineL l i).length ≤ i := by
  have h1 := List.length_filter_le (fun c => decide (rightP c)) (l.take i)
  have h2 : (l.take i).length ≤ i := by rw [List.length_take]; omega
  unfold fineL; omega
theorem fineL_ok {l : List CnA} (hg : ∀ c ∈ l, c.Good) (i : Nat) : ∀ c ∈ fineL l i, c.Good ∧ rightP c := by
  intro c hc
  unfold fineL at hc
  rw [List.mem_filter] at hc
  exact ⟨hg c (List.mem_of_mem_take hc.1), of_decide_eq_true hc.2⟩
theorem pagain_runs {S : St} {av mv : AV} {l : List CnA} {m : List Nat} (hok : Sok S) (hav : ∀ S, Cs S av l) (hgood : ∀ c ∈ l, c.Good) (hmv : ∀ S, Rd S mv 1 (sbytes m) m.length) (hm : ∀ x ∈ m, x < 256) (hml : m.length ≤ 1048576) (hn : S.n ≤ 1000) :
    Runs X1 7 [av, mv] S fun r _ => r = .bool true := by
  refine Runs_fn (m := 62) (by kernel_rfl) Tryd.func7 rfl (by kernel_rfl) (by kernel_rfl) ?_
  repeat' (
    first
      | refine W_seq ?_
      | refine WO_nil ?_
      | refine V_seq ?_
      | refine W_region ?_
      | refine W_block ?_
      | refine WO_dst rfl rfl (by kernel_rfl) (by kernel_rfl) ?_
      | refine Ev_assign rfl ?_)
  refine W_inv (fun a : Nat × AV => [(6, .int .i64 ((a.1 : Nat) : Int)), (5, a.2), (0, av), (1, mv)]) (fun a T => Own T a.2 24 5 (cellsC (fineL l a.1)) (fineL l a.1).length ∧ Sok T ∧ a.1 ≤ l.length ∧ a.1 ≤ 60 ∧ T.n ≤ 40 * a.1 + 1000) (fun a => 61 - a.1) ?_ (0, .nils) ⟨.inl ⟨rfl, rfl, rfl⟩, hok, by omega, by omega, by omega⟩ ⟨rfl, rfl, rfl, rfl, trivial⟩
  rintro ⟨i, v⟩ T ⟨how, hokT, hil, hi, hTn⟩ back
  dsimp only at how hil hi hTn back
  have hfl := fineL_len l i
  repeat' (
    first
      | refine W_seq ?_
      | refine WO_nil ?_
      | refine V_seq ?_
      | refine W_region ?_
      | refine W_block ?_
      | refine W_skip ?_
      | refine W_exit ?_
      | refine V_block_x rfl ?_
      | refine V_seq_x ?_
      | refine V_loop_x ?_
      | refine W_cond_f rfl ?_
      | refine WO_dst rfl rfl (by kernel_rfl) (by kernel_rfl) ?_
      | refine WO_guard_t rfl rfl rfl rfl rfl (by kernel_rfl) (by kernel_rfl) ?_
      | refine WO_guard_f rfl rfl rfl rfl rfl rfl (by kernel_rfl) (by kernel_rfl) ?_
      | refine Ev_len rfl rfl rfl rfl rfl (hav T).len ?_
      | refine Ev_move rfl ?_
      | refine Ev_pick_t rfl rfl rfl ?_
      | refine Ev_pick_f rfl rfl rfl ?_
      | refine Ev_lssN rfl rfl ?_
      | (refine WO_guard_dt rfl rfl rfl rfl rfl (by kernel_rfl) (by kernel_rfl) (fun hg => ?_) (fun hg => ?_) <;> (try dsimp only at hg) <;> try (exfalso; first | omega | exact hg rfl))
      | (refine W_cond rfl (fun hc => ?_) (fun hc => ?_) <;> (try dsimp only at hc) <;> try (exfalso; first | omega | exact hc rfl)))
  · have hlt : i < l.length := by assumption
    have hcg : (l[i]).Good := hgood _ (List.getElem_mem _)
    have hs := fineL_s hlt
    refine Ev_indexAddr_rd rfl rfl rfl rfl rfl (hav T) hlt ?_
    intro q hq
    repeat (
      refine WO_dst rfl rfl (by kernel_rfl) (by kernel_rfl) ?_)
    refine Ev_load_pt_agg rfl rfl rfl hq (by rw [cellsC_len]; dsimp only; omega) (cellsC_get l i hlt) (CnA.veqs _) ?_
    repeat (
      refine WO_dst rfl rfl (by kernel_rfl) (by kernel_rfl) ?_)
    refine Ev_call rfl rfl ((right_runs hokT hcg (by omega)).mono ?_)
    rintro _ T1 - ⟨rfl, hF1⟩
    have gn1 := hF1.n
    have gl1 := hF1.le
    have how1 := how.keep (fun c h => hF1.same c (by simp [blkOf]) (how.lt hokT h))
    repeat' (
      first
        | refine WO_nil ?_
        | refine V_seq ?_
        | refine W_region ?_
        | refine W_skip ?_
        | refine V_block ?_
        | refine WO_dst rfl rfl (by kernel_rfl) (by kernel_rfl) ?_
        | refine Ev_move rfl ?_
        | refine Ev_assign rfl ?_
        | refine Ev_addN rfl rfl (by simp only [lim]; omega) ?_
        | (refine W_cond rfl (fun hc => ?_) (fun hc => ?_) <;> (try dsimp only at hc) <;> try (exfalso; first | omega | exact hc rfl)))
    · have hr : rightP l[i] := by assumption
      rw [if_pos hr] at hs
      refine Ev_indexAddr_rd rfl rfl rfl rfl rfl (hav T1) hlt ?_
      intro q2 hq2
      repeat (
        refine WO_dst rfl rfl (by kernel_rfl) (by kernel_rfl) ?_)
      refine Ev_load_pt_agg rfl rfl rfl hq2 (by rw [cellsC_len]; dsimp only; omega) (cellsC_get l i hlt) (CnA.veqs _) ?_
      repeat (
        refine WO_dst rfl rfl (by kernel_rfl) (by kernel_rfl) ?_)
      refine Ev_buildSlice rfl rfl rfl rfl rfl rfl hF1.ok (by omega) ?_
      intro T2 gn2 gok2 gq2 gf2
      have how2 := how1.keep (fun c h => gf2 c (how1.lt hF1.ok h))
      have hrd : Rd T2 (.slice T1.n 0 1 (.ex 1)) 5 (l[i]).cells 1 := Rd_lit gq2 rfl rfl
      repeat (
        refine WO_dst rfl rfl (by kernel_rfl) (by kernel_rfl) ?_)
      refine Ev_append rfl rfl rfl rfl rfl rfl rfl rfl rfl rfl how2 hrd (CnA.ones l[i]) gok2 (by omega) (by dsimp only; omega) (by omega) ?_
      intro v' T3 h1 h2 h3 h4 h5 h6
      repeat' (
        first
          | refine WO_nil ?_
          | refine V_seq ?_
          | refine W_region ?_
          | refine V_block ?_
          | refine WO_dst rfl rfl (by kernel_rfl) (by kernel_rfl) ?_
          | refine Ev_move rfl ?_
          | refine Ev_assign rfl ?_
          | refine Ev_addN rfl rfl (by simp only [lim]; omega) ?_)
      refine back (i + 1, v') T3 _ (by dsimp only; omega) ⟨?_, h3, hlt, by dsimp only; omega, by dsimp only; omega⟩ ⟨rfl, rfl, rfl, rfl, trivial⟩
      dsimp only
      rw [hs]
      exact h4.eq (by rw [cellsC_app]; simp [cellsC]) (by simp)
    · have hr : ¬ rightP l[i] := by assumption
      rw [if_neg hr] at hs
      refine back (i + 1, v) T1 _ (by dsimp only; omega) ⟨?_, hF1.ok, hlt, by dsimp only; omega, by dsimp only; omega⟩ ⟨rfl, rfl, rfl, rfl, trivial⟩
      dsimp only
      rw [hs]; exact how1
  all_goals
    obtain ⟨cs, hcs⟩ : ∃ cs, cs = fineL l i := ⟨_, rfl⟩
    have hfine := fineL_ok hgood i
    rw [← hcs] at how hfl hfine
    have hpl := poolL_len cs
    refine Ev_call rfl rfl ((new_runs hokT (by omega)).mono ?_)
    rintro _ S1 - ⟨rfl, gn1, gok1, gf1, hw1⟩
    have how1 := how.keep (fun c h => gf1 c (how.lt hokT h))
    have hlw : LW S1 T.n .nils v [] cs := ⟨gok1, hw1, how1.rd, fun e => by have := how.lt hokT e; omega, fun b hb e => by cases e⟩
    repeat' (
      first
        | refine W_seq ?_
        | refine WO_nil ?_
        | refine V_seq ?_
        | refine W_region ?_
        | refine WO_dst rfl rfl (by kernel_rfl) (by kernel_rfl) ?_
        | refine WO_guard_t rfl rfl rfl rfl rfl (by kernel_rfl) (by kernel_rfl) ?_
        | refine Ev_move rfl ?_
        | refine Ev_assign rfl ?_
        | refine Ev_ptr_eql rfl rfl rfl rfl ?_)
    refine Ev_call rfl rfl ((pwrite_runs hlw (fun c hc => (hfine c hc).1) (fun c hc => (hfine c hc).2) (by omega) (by simp) (by omega)).mono ?_)
    rintro _ S2 - ⟨rfl, vb2, h2, hF2⟩
    have gn2 := hF2.n
    repeat' (
      first
        | refine W_seq ?_
        | refine WO_nil ?_
        | refine V_seq ?_
        | refine W_region ?_
        | refine W_skip ?_
        | refine W_cond_f rfl ?_
        | refine WO_dst rfl rfl (by kernel_rfl) (by kernel_rfl) ?_
        | refine WO_guard_t rfl rfl rfl rfl rfl (by kernel_rfl) (by kernel_rfl) ?_
        | refine Ev_move rfl ?_
        | refine Ev_pick_f rfl rfl rfl ?_
        | refine Ev_neqN rfl rfl ?_)
    refine Ev_call rfl rfl ((wbytes_runs h2.ok h2.wr (hmv S2) (by simp only [List.length_append, List.length_nil]; omega) (by omega) (by omega)).mono ?_)
    rintro _ S3 - ⟨vb3, hw3, hF3⟩
    have h3 := h2.wf hF3 hw3
    have gn3 := hF3.n
    repeat (
      first
        | refine W_seq ?_
        | refine WO_nil ?_
        | refine V_seq ?_
        | refine W_region ?_
        | refine WO_dst rfl rfl (by kernel_rfl) (by kernel_rfl) ?_
        | refine Ev_move rfl ?_)
    refine Ev_call rfl rfl ((done_runs hF3.ok hw3 (by simp only [List.length_append, List.length_nil]; omega) (by omega)).mono ?_)
    rintro z S4 - ⟨hF4, hz, hzb⟩
    have h4 := h3.fr hF4
    have gn4 := hF4.n
    repeat (
      refine WO_dst rfl rfl (by kernel_rfl) (by kernel_rfl) ?_)
    refine Ev_call rfl rfl ((newrd_runs hF4.ok hz.rd (by simp only [List.length_append, List.length_nil]; omega) (by omega)).mono ?_)
    rintro _ S5 - ⟨p, vr, rfl, hp1, hp2, hrr, hvr, hF5⟩
    have h5 := h4.fr hF5
    have gn5 := hF5.n
    repeat' (
      first
        | refine W_seq ?_
        | refine WO_nil ?_
        | refine V_seq ?_
        | refine W_region ?_
        | refine W_skip ?_
        | refine W_cond_f rfl ?_
        | refine WO_dst rfl rfl (by kernel_rfl) (by kernel_rfl) ?_
        | refine Ev_move rfl ?_
        | refine Ev_assign rfl ?_
        | refine Ev_ptr_eql rfl rfl rfl rfl ?_)
    obtain ⟨B, hB⟩ : ∃ B, B = [] ++ poolL cs ++ m := ⟨_, rfl⟩
    rw [← hB] at hrr
    have hBl : B.length = (poolL cs).length + m.length := by rw [hB]; simp
    have hBd : B.drop 0 = poolL cs ++ m := by rw [hB]; simp
    have hBlt : ∀ x ∈ B, x < 256 := by
      intro x hx
      rw [hB, List.nil_append] at hx
      exact (List.mem_append.1 hx).elim (poolL_lt cs x) (hm x)
    refine Ev_call rfl rfl ((pread_runs hF5.ok hrr (by omega) hBlt (by decide) (by omega)).mono ?_)
    rintro w S6 - hL
    rw [readS_at hfine (by omega) hBd] at hL
    dsimp only at hL
    have hv6 : Cs S6 v cs := h5.cs.keep (fun c hc => hL.fr.same c (fun e => by have := h4.cs.lt hF4.ok (e ▸ hc); omega) (h5.cs.lt hF5.ok hc))
    repeat' (
      first
        | refine WO_dst rfl rfl (by kernel_rfl) (by kernel_rfl) ?_
        | refine Ev_move rfl ?_)
    refine Ev_call rfl rfl ((csame_runs hL.ow.rd hv6 ⟨by omega, by omega⟩).mono ?_)
    rintro _ S7 - ⟨rfl, hS7⟩
    rw [hS7, decide_eq_true rfl]
    repeat' (
      first
        | refine WO_dst rfl rfl (by kernel_rfl) (by kernel_rfl) ?_
        | refine WO_guard_t rfl rfl rfl rfl rfl (by kernel_rfl) (by kernel_rfl) ?_
        | refine Ev_move rfl ?_)
    refine Ev_call rfl rfl ((left_runs (by omega) hL.rr).mono ?_)
    rintro _ S8 - ⟨hS8, rfl⟩
    rw [hS8]
    have hleft : RdS.left ⟨0 + (poolL cs).length, 0, 0⟩ B = m.length := by
      unfold RdS.left; rw [if_neg (by simp)]; dsimp only; omega
    rw [hleft]
    repeat' (
      first
        | refine WO_dst rfl rfl (by kernel_rfl) (by kernel_rfl) ?_
        | refine WO_guard_t rfl rfl rfl rfl rfl (by kernel_rfl) (by kernel_rfl) ?_
        | refine Ev_len rfl rfl rfl rfl rfl (hmv S6).len ?_
        | refine Ev_move rfl ?_
        | refine Ev_pick_t rfl rfl rfl ?_
        | refine Ev_eqlN rfl rfl ?_
        | (refine WO_guard_dt rfl rfl rfl rfl rfl (by kernel_rfl) (by kernel_rfl) (fun hg => ?_) (fun hg => ?_) <;> (try dsimp only at hg) <;> try (exfalso; first | omega | exact hg rfl)))
    refine Ev_call rfl rfl (known_true ?_)
    repeat' (
      first
        | refine WO_nil ?_
        | refine V_seq ?_
        | refine W_ret ?_
        | refine WO_dst rfl rfl (by kernel_rfl) (by kernel_rfl) ?_
        | refine Ev_assign rfl ?_
        | refine Ev_pick_t rfl rfl rfl ?_)
    refine V_done rfl rfl ?_
    rfl
end Go.Proofs.YthhbnnnokmefoaaDoor
/- carafelaw3.PoolReads. -/





namespace Go.Proofs.YthhbnnnokmefoaaDoor
open GX
set_option maxHeartbeats 16000000
set_option maxRecDepth 100000
theorem lput_byte : ∀ (a : List Nat) (x y : Nat) (c : List Nat), lput (sbytes (a ++ x :: c)) a.length [AV.int .u8 (y : Int)] = sbytes (a ++ y :: c)
  | [], x, y, c => by
    show AV.int .u8 y :: lput (sbytes c) 0 [] = _
    cases c <;> rfl
  | z :: a, x, y, c => by
    show AV.int .u8 z :: lput (sbytes (a ++ x :: c)) a.length [AV.int .u8 (y : Int)] = _
    rw [lput_byte a x y c]; rfl
theorem lput_at {l : List Nat} {k z : Nat} (hk : k < l.length) (hl : ∀ x ∈ l, x < 256) (hz : z < 256) : ∃ l' : List Nat, lput (sbytes l) k [AV.int .u8 (z : Int)] = sbytes l' ∧ l'.length = l.length ∧ ∀ x ∈ l', x < 256 := by
  have e : l = l.take k ++ l[k] :: l.drop (k + 1) := by
    rw [← List.drop_eq_getElem_cons hk, List.take_append_drop]
  have hlen : (l.take k).length = k := by rw [List.length_take]; omega
  have h := lput_byte (l.take k) l[k] z (l.drop (k + 1))
  rw [hlen, ← e] at h
  refine ⟨_, h, ?_, fun x hx => ?_⟩
  · rw [List.length_append, List.length_cons, List.length_drop, hlen]; omega
  · rcases List.mem_append.1 hx with g | g
    · exact hl x (List.mem_of_mem_take g)
    · rcases List.mem_cons.1 g with g | g
      · rw [g]; exact hz
      · exact hl x (List.mem_of_mem_drop g)
theorem cloop_len (b : List Nat) : ∀ (n : Nat) (r : RdS) (l : List CnA), (cloop b n r l).1.length ≤ n + l.length
  | 0, r, l => by show l.length ≤ 0 + l.length; omega
  | n + 1, r, l => by
    unfold cloop
    split
    · simp
    · have := cloop_len b n (cnext b r) (l ++ [(cstep b r).1])
      rw [List.length_append] at this
      simp only [List.length_cons, List.length_nil] at this
      omega
theorem readS_len {b : List Nat} {r : RdS} (hlt : ∀ x ∈ b, x < 256) : (readS b r).1.length ≤ 65536 := by
  have h1 := numOf_lt _ _ rfl (take_lt (r := r) (n := 2) hlt)
  have h2 : 256 ^ (r.take b 2).1.length ≤ 256 ^ 2 := Nat.pow_le_pow_right (n := 256) (by omega) (take_len r b 2)
  have h3 := cloop_len b (numOf (r.take b 2).1) (chead b r) []
  rw [readS_eq]
  simp only [List.length_nil] at h3
  omega
theorem preads_runs {S : St} {bv av : AV} {b : List Nat} {l : List CnA} {n0 t0 : Int} (hok : Sok S) (hbv : ∀ S, Rd S bv 1 (sbytes b) b.length) (hb : ∀ x ∈ b, x < 256) (hbl : b.length ≤ 1048576) (hav : ∀ S, Cs S av l) (hgood : ∀ c ∈ l, c.Good ∧ c.cl.length ≤ 1048576 ∧ c.nm.length ≤ 1048576 ∧ c.ds.length ≤ 1048576) (hn : S.n ≤ 1000) :
    Runs X1 6 [bv, av, .int .i64 n0, .int .u8 t0] S fun r _ => r = .bool true := by
  have hbn := rd_noblk hbv
  have han := rd_noblk hav
  refine Runs_fn (m := 91) (by kernel_rfl) Tryd.func6 rfl (by kernel_rfl) (by kernel_rfl) ?_
  repeat' (
    first
      | refine W_seq ?_
      | refine WO_nil ?_
      | refine V_seq ?_
      | refine W_region ?_
      | refine WO_dst rfl rfl (by kernel_rfl) (by kernel_rfl) ?_
      | refine Ev_len rfl rfl rfl rfl rfl (hav S).len ?_
      | refine Ev_move rfl ?_
      | refine Ev_assign rfl ?_
      | refine Ev_gtrN rfl rfl ?_)
  refine W_cut (fun l' U => U = S ∧ ∃ av' cs, Cs S av' cs ∧ blkOf av' = none ∧ cs.length ≤ 40 ∧ (∀ c ∈ cs, c.Good ∧ c.cl.length ≤ 1048576 ∧ c.nm.length ≤ 1048576 ∧ c.ds.length ≤ 1048576) ∧ sub [(1, av'), (0, bv), (2, .int .i64 n0), (3, .int .u8 t0)] l') ?_ ?_
  · repeat' (
      first
        | refine W_region ?_
        | refine W_skip ?_
        | refine WO_dst rfl rfl (by kernel_rfl) (by kernel_rfl) ?_
        | refine Ev_move rfl ?_
        | (refine W_cond rfl (fun hc => ?_) (fun hc => ?_) <;> (try dsimp only at hc) <;> try (exfalso; first | omega | exact hc rfl)))
    · refine Ev_slice_hi (hi := 40) rfl rfl rfl rfl rfl (hav S) (by omega) ?_
      intro v' hv' hb'
      repeat (
        first
          | refine WO_nil ?_
          | refine WO_dst rfl rfl (by kernel_rfl) (by kernel_rfl) ?_
          | refine Ev_assign rfl ?_)
      refine V_mid ⟨rfl, v', l.take 40, hv'.eq (by show (cellsC l).take (40 * 5) = _; rw [cellsC_take]) (by rw [List.length_take]; omega), ?_, by rw [List.length_take]; omega, fun c hc => hgood c (List.mem_of_mem_take hc), rfl, rfl, rfl, rfl, trivial⟩
      cases hh : blkOf v' with
      | none => rfl
      | some d => have := hb' d hh; rw [han] at this; cases this
    · exact V_mid ⟨rfl, av, l, hav S, han, by omega, hgood, rfl, rfl, rfl, rfl, trivial⟩
  rintro l' _ ⟨rfl, av', cs, hcs, hcn, hc40, hcg, hs⟩
  rename_i S
  refine V_weak hs ?_
  repeat (
    first
      | refine W_seq ?_
      | refine V_seq ?_
      | refine W_region ?_
      | refine WO_dst rfl rfl (by kernel_rfl) (by kernel_rfl) ?_
      | refine Ev_move rfl ?_)
  refine Ev_call rfl rfl ((rpwrite_runs hok hcs hcg (by omega) (by omega)).mono ?_)
  rintro _ S1 - ⟨w, rfl, hF1, how, hbk⟩
  have gn1 := hF1.n
  have gl1 := hF1.le
  have hpl := poolL_len cs
  have hp2 : 2 ≤ (poolL cs).length := by unfold poolL; rw [List.length_append, numL_len]; omega
  obtain ⟨E, hE⟩ : ∃ E, E = writeE cs := ⟨_, rfl⟩
  rw [← hE] at how ⊢
  repeat (first | refine WO_dst rfl rfl (by kernel_rfl) (by kernel_rfl) ?_ | refine Ev_move rfl ?_ | refine Ev_extract rfl rfl ?_ | refine Ev_assign rfl ?_)
  refine WO_nil ?_
  refine V_seq ?_
  refine W_seq ?_
  refine W_cut (fun l' U => ∃ v0 B, Rd U v0 1 (sbytes B) B.length ∧ (∀ x ∈ B, x < 256) ∧ B.length ≤ 1200000 ∧ Sok U ∧ U.n ≤ 6000000 ∧ sub [(0, v0)] l') ?_ ?_
  · by_cases hE0 : E = 0
    · subst hE0
      rw [if_pos rfl] at how
      rcases how with ⟨_, h0, _⟩ | ⟨wb, rfl, hcell, _⟩
      · have := congrArg List.length h0
        rw [sbytes_len] at this
        simp at this; omega
      have hwb : wb < S1.n := hF1.ok _ _ hcell
      repeat' (
        first
          | refine W_seq ?_
          | refine WO_nil ?_
          | refine V_seq ?_
          | refine W_region ?_
          | refine W_cond_t rfl ?_
          | refine WO_dst rfl rfl (by kernel_rfl) (by kernel_rfl) ?_
          | refine WO_guard_t rfl rfl rfl rfl rfl (by kernel_rfl) (by kernel_rfl) ?_
          | refine Ev_move rfl ?_
          | refine Ev_pick_t rfl rfl rfl ?_
          | refine Ev_gtrN rfl rfl ?_
          | refine Ev_eqlN rfl rfl ?_
          | refine Ev_len rfl rfl rfl rfl rfl rfl ?_
          | refine Ev_subN rfl rfl (by simp only [lim]; omega) (by first | omega | (dsimp only; done) | (dsimp only; omega)) ?_)
      refine Ev_call rfl rfl ((within_runs (by omega)).mono ?_)
      rintro _ S2 - ⟨hS2, k, rfl, hk⟩
      rw [hS2]
      have hk' : k ≤ (poolL cs).length - 1 := hk
      have hklt : k < (poolL cs).length := by omega
      repeat' (
        first
          | refine W_seq ?_
          | refine WO_nil ?_
          | refine V_seq ?_
          | refine W_region ?_
          | refine WO_dst rfl rfl (by kernel_rfl) (by kernel_rfl) ?_
          | refine Ev_load rfl rfl rfl hcell (by rw [Nat.zero_add, Nat.mul_one]; exact sbytes_get hklt) (veq_int _ _) ?_
          | refine Ev_move rfl ?_
          | refine Ev_assign rfl ?_
          | refine Ev_indexAddr rfl rfl rfl rfl rfl (by first | omega | (dsimp only; done) | (dsimp only; omega)) ?_)
      refine Ev_xor8 rfl rfl ?_
      intro z hz
      repeat (
        first
          | refine WO_dst rfl rfl (by kernel_rfl) (by kernel_rfl) ?_
          | refine WO_no rfl rfl ?_
          | refine Ev_indexAddr rfl rfl rfl rfl rfl (by first | omega | (dsimp only; done) | (dsimp only; omega)) ?_)
      refine Ev_store1 rfl rfl rfl rfl rfl rfl hcell (by show 0 + k * 1 + 1 ≤ _; rw [sbytes_len]; omega) (by omega) ?_
      intro S3 gn3 gq3 gf3
      obtain ⟨L, e1, e2, e3⟩ := lput_at hklt (poolL_lt cs) hz
      rw [Nat.zero_add, Nat.mul_one, e1] at gq3
      have how3 : Own S3 (.slice wb 0 (poolL cs).length (.op 1)) 5 1 (sbytes L) (poolL cs).length := .inr ⟨wb, rfl, gq3, by rw [sbytes_len, e2, Nat.mul_one]⟩
      have gok3 : Sok S3 := sok_upd hF1.ok hwb gn3 gq3 gf3
      repeat (
        first
          | refine WO_nil ?_
          | refine V_seq ?_
          | refine W_region ?_
          | refine WO_dst rfl rfl (by kernel_rfl) (by kernel_rfl) ?_
          | refine Ev_move rfl ?_)
      refine Ev_append rfl rfl rfl rfl rfl rfl rfl rfl rfl rfl how3 (hbv S3) (sbytes_one b) gok3 (by omega) (by dsimp only; omega) (by omega) ?_
      intro v7 S7 g1 g2 g3 g4 g5 g6
      repeat (
        first
          | refine WO_nil ?_
          | refine WO_dst rfl rfl (by kernel_rfl) (by kernel_rfl) ?_
          | refine Ev_assign rfl ?_)
      refine V_mid ⟨v7, L ++ b, ?_, ?_, by rw [List.length_append]; omega, g3, by omega, rfl, trivial⟩
      · exact g4.rd.eq (by unfold sbytes; rw [List.map_append]) (by rw [List.length_append, e2])
      · intro x hx
        exact (List.mem_append.1 hx).elim (e3 x) (hb x)
    · repeat' (
        first
          | refine W_seq ?_
          | refine WO_nil ?_
          | refine V_seq ?_
          | refine W_region ?_
          | refine W_skip ?_
          | refine W_cond_f rfl ?_
          | refine WO_dst rfl rfl (by kernel_rfl) (by kernel_rfl) ?_
          | refine WO_guard_f rfl rfl rfl rfl rfl rfl (by kernel_rfl) (by kernel_rfl) ?_
          | refine Ev_move rfl ?_
          | refine Ev_pick_f rfl rfl rfl ?_
          | refine Ev_eql rfl rfl ?_
          | (refine WO_guard_dt rfl rfl rfl rfl rfl (by kernel_rfl) (by kernel_rfl) (fun hg => ?_) (fun hg => ?_) <;> (try dsimp only at hg) <;> try (exfalso; first | omega | exact hg rfl)))
      exact V_mid ⟨bv, b, hbv S1, hb, by omega, hF1.ok, by omega, rfl, trivial⟩
  rintro l'' U ⟨v0, B, hv0, hB, hBl, hokU, hUn, hs⟩
  refine V_weak hs ?_
  repeat (
    first
      | refine W_seq ?_
      | refine V_seq ?_
      | refine W_region ?_
      | refine WO_dst rfl rfl (by kernel_rfl) (by kernel_rfl) ?_
      | refine Ev_move rfl ?_)
  refine Ev_call rfl rfl ((newrd_runs hokU hv0 (by omega) (by omega)).mono ?_)
  rintro _ S2 - ⟨p, vb, rfl, hp1, hp2, hrr, hvb, hF2⟩
  have gn2 := hF2.n
  have gl2 := hF2.le
  have hv02 := hv0.keep (fun c hc => hF2.same c (by simp [blkOf]) (hv0.lt hokU hc))
  have hv0U : ∀ c, blkOf v0 = some c → c < U.n := fun c hc => hv0.lt hokU hc
  repeat (
    first
      | refine W_seq ?_
      | refine WO_nil ?_
      | refine V_seq ?_
      | refine W_region ?_
      | refine WO_dst rfl rfl (by kernel_rfl) (by kernel_rfl) ?_
      | refine Ev_move rfl ?_
      | refine Ev_assign rfl ?_)
  refine Ev_build (v := .agg [v0, .int .i64 0, .bool false, .int .i64 0, .int .i64 0]) rfl ?_ ?_
  · have hs := hv0.sl
    cases v0 <;> first | rfl | cases hs
  repeat (
    refine WO_dst rfl rfl (by kernel_rfl) (by kernel_rfl) ?_)
  refine Ev_box rfl hF2.ok (by omega) ?_
  intro S3 gn3 gok3 gq3 gf3
  have hF3 : Fr S2 S3 .nils 1 := ⟨by omega, by omega, gok3, fun c _ h => gf3 c h⟩
  have hv03 := hv02.keep (fun c hc => gf3 c (hv02.lt hF2.ok hc))
  have hrr3 := hrr.fr hF2.ok hF3
  have hrq3 : Rq S3 S2.n v0 B ⟨0, 0, 0⟩ := ⟨gq3, hv03, fun e => by have := hv0U _ e; omega, Nat.zero_le _⟩
  have hvb2 : ∀ c, blkOf vb = some c → c < S2.n := fun c hc => hrr.rd.lt hF2.ok hc
  repeat' (
    first
      | refine W_seq ?_
      | refine WO_nil ?_
      | refine V_seq ?_
      | refine W_region ?_
      | refine W_skip ?_
      | refine W_cond_f rfl ?_
      | refine WO_dst rfl rfl (by kernel_rfl) (by kernel_rfl) ?_
      | refine Ev_move rfl ?_
      | refine Ev_assign rfl ?_
      | refine Ev_ptr_eql rfl rfl rfl rfl ?_)
  refine Ev_call rfl rfl ((pread_runs gok3 hrr3 (by omega) hB (by decide) (by omega)).mono ?_)
  rintro x S4 - hL4
  have gn4 := hL4.fr.n
  have gl4 := hL4.fr.le
  have hrq4 : Rq S4 S2.n v0 B ⟨0, 0, 0⟩ := ⟨by rw [hL4.fr.same S2.n (by omega) (by omega)]; exact gq3, hv03.keep (fun c hc => hL4.fr.same c (by have := hv0U c hc; omega) (by have := hv0U c hc; omega)), hrq3.ne, Nat.zero_le _⟩
  repeat' (
    first
      | refine W_seq ?_
      | refine WO_nil ?_
      | refine V_seq ?_
      | refine W_region ?_
      | refine WO_dst rfl rfl (by kernel_rfl) (by kernel_rfl) ?_
      | refine Ev_move rfl ?_
      | refine Ev_assign rfl ?_)
  refine Ev_call rfl rfl ((qread_runs hL4.fr.ok hrq4 (by omega) hB (fun c hc => by have := hv0U c hc; omega) (by omega)).mono ?_)
  rintro y S5 - hL5
  obtain ⟨rE, hrE⟩ : ∃ rE, rE = (readS B ⟨0, 0, 0⟩).2 := ⟨_, rfl⟩
  obtain ⟨R, hR⟩ : ∃ R, R = (readS B ⟨0, 0, 0⟩).1 := ⟨_, rfl⟩
  have hRl : R.length ≤ 65536 := by rw [hR]; exact readS_len hB
  rw [← hrE, ← hR] at hL4 hL5
  have hrr5 : Rr S5 p vb B rE := ⟨by rw [hL5.fr.same p (by omega) (by omega)]; exact hL4.rr.cell, hL4.rr.rd.keep (fun c hc => hL5.fr.same c (by have := hvb2 c hc; omega) (by have := hvb2 c hc; omega)), hL4.rr.ne, hL4.rr.le⟩
  have hx5 : Cs S5 x R := (hL4.ow.keep (fun c hc => hL5.fr.same c (by have := hL4.bk c hc; omega) (hL4.ow.lt hL4.fr.ok hc))).rd
  repeat' (
    first
      | refine W_seq ?_
      | refine WO_nil ?_
      | refine V_seq ?_
      | refine W_region ?_
      | refine WO_dst rfl rfl (by kernel_rfl) (by kernel_rfl) ?_
      | refine Ev_move rfl ?_
      | refine Ev_assign rfl ?_)
  refine Ev_call rfl rfl ((end_runs hrr5).mono ?_)
  rintro _ S6 - ⟨hS6, rfl⟩
  rw [hS6]
  repeat' (
    first
      | refine W_seq ?_
      | refine WO_nil ?_
      | refine V_seq ?_
      | refine W_region ?_
      | refine WO_dst rfl rfl (by kernel_rfl) (by kernel_rfl) ?_
      | refine Ev_move rfl ?_
      | refine Ev_assign rfl ?_
      | refine Ev_extract rfl rfl ?_)
  refine Ev_call rfl rfl ((qend_runs hL5.rr).mono ?_)
  rintro _ S7 - ⟨hS7, rfl⟩
  rw [hS7]
  repeat' (
    first
      | refine W_seq ?_
      | refine WO_nil ?_
      | refine V_seq ?_
      | refine W_region ?_
      | refine WO_dst rfl rfl (by kernel_rfl) (by kernel_rfl) ?_
      | refine Ev_move rfl ?_
      | refine Ev_assign rfl ?_
      | refine Ev_extract rfl rfl ?_)
  refine Ev_call rfl rfl ((csame_runs hx5 hL5.ow.rd ⟨by omega, by omega⟩).mono ?_)
  rintro _ S8 - ⟨rfl, hS8⟩
  rw [hS8, decide_eq_true rfl]
  repeat' (
    first
      | refine WO_dst rfl rfl (by kernel_rfl) (by kernel_rfl) ?_
      | refine WO_guard_t rfl rfl rfl rfl rfl (by kernel_rfl) (by kernel_rfl) ?_
      | refine Ev_move rfl ?_
      | refine Ev_pick_t rfl rfl rfl ?_
      | refine Ev_eql rfl rfl ?_
      | (refine WO_guard_dt rfl rfl rfl rfl rfl (by kernel_rfl) (by kernel_rfl) (fun hg => ?_) (fun hg => ?_) <;> (try dsimp only at hg) <;> try (exfalso; first | omega | exact hg rfl)))
  refine Ev_call rfl rfl (known_true ?_)
  repeat' (
    first
      | refine WO_nil ?_
      | refine V_seq ?_
      | refine W_ret ?_
      | refine WO_dst rfl rfl (by kernel_rfl) (by kernel_rfl) ?_
      | refine Ev_assign rfl ?_
      | refine Ev_pick_t rfl rfl rfl ?_)
  refine V_done rfl rfl ?_
  rfl
end Go.Proofs.YthhbnnnokmefoaaDoor
