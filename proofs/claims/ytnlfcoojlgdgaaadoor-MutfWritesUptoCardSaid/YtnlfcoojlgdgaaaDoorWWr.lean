/- mutf.Writer, and caraferef1.Number, Text: what is written. -/
import Derived.Test.YtnlfcoojlgdgaaaDoorWRef
import Derived.Test.YtnlfcoojlgdgaaaDoorGXW6
namespace Go.Proofs.YtnlfcoojlgdgaaaDoor
open GX
set_option maxHeartbeats 8000000
theorem sl_cells {v : AV} (h : isSl v = true) : v.cells = [v] := by cases v <;> first | rfl | cases h
theorem Sok.upd {S S' : St} {p : Nat} {b : AB} (h : Sok S) (hp : p < S.n) (hn : S'.n = S.n) (_ : S'.h.get p = some b) (hf : ∀ c, c ≠ p → S'.h.get c = S.h.get c) : Sok S' := by
  intro c x hx
  by_cases hc : c = p
  · rw [hc, hn]; exact hp
  · rw [hf c hc] at hx; rw [hn]; exact h c x hx
theorem sl_one {v : AV} (h : isSl v = true) : v.one = true := by cases v <;> first | rfl | cases h
section
variable {X : X} {l : L} {S : St} {R : AV → St → Prop} {x y : Operand}
open Go
theorem Ev_store_sl {t b o : Nat} {i : TI} {ty : Nat} {cs : List AV} {sp : Bool} {v : AV} (hx : od l x = some (.ptr b o)) (hy : od l y = some v) (hsl : isSl v = true) (hi : X.ti t = some i) (hz : Nat.beq 1 i.size = true) (hb : S.h.get b = some (.cells ty cs sp)) (hle : o + 1 ≤ cs.length) (hn : b < 1000000000)
    (hR : ∀ S', S'.n = S.n → S'.h.get b = some (.cells ty (lput cs o [v]) sp) → (∀ c, c ≠ b → S'.h.get c = S.h.get c) → R (.tup []) S') : Ev X l S (.store t x y) R := by
  have hc := sl_cells hsl
  refine Ev_store hx hy hi (by rw [hc]; exact hz) (by rw [hc]; simp [sl_one hsl]) hb (by rw [hc]; exact hle) hn ?_
  rw [hc]; exact hR
/-- a shift to the right by a number that is not a constant -/
theorem Ev_shrV {t u m : Nat} {k k' : IntKind} {a : Int} (hx : od l x = some (.int k a)) (hy : od l y = some (.int k' ((m : Nat) : Int))) (hm : m ≤ k.bits) (hR : R (.int k (a / ((2 ^ m : Nat) : Int))) S) : Ev X l S (.binOp .shr t x y u) R :=
  Ev_shr hx hy (by rw [nble]; exact decide_eq_true hm) rfl hR
/-- a number as a byte -/
theorem Ev_conv8i {s d : Nat} {k : IntKind} {a : Int} {di si : TI} (hx : od l x = some (.int k a)) (hs : X.ti s = some si) (hd : X.ti d = some di) (hsd : si.desc = .int k) (hdd : di.desc = .int .u8) (hR : R (.int .u8 (((a % 256).toNat : Nat) : Int)) S) : Ev X l S (.convert s d x) R :=
  Ev_convw hx hs hd hsd hdd (by rw [wrp_u8, show a % 256 = (((a % 256).toNat : Nat) : Int) by omega]; exact hR)
theorem Ev_conv64 {s d : Nat} {k : IntKind} {a : Int} {di si : TI} (hx : od l x = some (.int k a)) (hs : X.ti s = some si) (hd : X.ti d = some di) (hsd : si.desc = .int k) (hdd : di.desc = .int .u64) (hR : R (.int .u64 (a % 18446744073709551616)) S) : Ev X l S (.convert s d x) R :=
  Ev_convw hx hs hd hsd hdd (by rw [wrp_u64]; exact hR)
end
def byteAt (n : Int) (k : Nat) : Nat := (n / ((2 ^ (8 * k) : Nat) : Int) % 256).toNat
/-- a number's lowest bytes -/
def numL (n : Int) : Nat → List Nat
  | 0 => []
  | j + 1 => byteAt n j :: numL n j
theorem numL_len (n : Int) : ∀ j, (numL n j).length = j
  | 0 => rfl
  | j + 1 => by simp [numL, numL_len n j]
theorem byteAt_lt (n : Int) (k : Nat) : byteAt n k < 256 := by unfold byteAt; omega
theorem numL_lt (n : Int) : ∀ j, ∀ b ∈ numL n j, b < 256
  | 0 => by simp [numL]
  | j + 1 => by
    intro b hb
    rcases List.mem_cons.1 hb with h | h
    · rw [h]; exact byteAt_lt n j
    · exact numL_lt n j b h
def sizeN (b : Int) : Nat := (min (max b 1) 8).toNat
theorem sizeN_le (b : Int) : 1 ≤ sizeN b ∧ sizeN b ≤ 8 := by unfold sizeN; omega
theorem size_runs (n : Int) (S : St) : Runs X1 49 [.int .i64 n] S fun v S' => S' = S ∧ v = .int .i64 ((sizeN n : Nat) : Int) := by
  refine Runs_fn (m := 6) (by kernel_rfl) Tryd.func49 rfl (by kernel_rfl) (by kernel_rfl) ?_
  repeat (
    first
      | refine W_seq ?_
      | refine WO_nil ?_
      | refine V_seq ?_
      | refine W_region ?_
      | refine W_ret ?_
      | refine WO_dst rfl rfl (by kernel_rfl) (by kernel_rfl) ?_
      | refine Ev_move rfl ?_
      | refine Ev_assign rfl ?_
      | refine Ev_min rfl rfl rfl ?_
      | refine Ev_max rfl rfl rfl ?_)
  refine V_done rfl rfl ?_
  refine ⟨rfl, ?_⟩
  show AV.int .i64 (min (max n 1) 8) = _
  congr 1
  unfold sizeN
  omega
theorem width_runs (n : Int) (S : St) : Runs X1 50 [.int .i64 n] S fun v S' => S' = S ∧ v = .int .i64 ((sizeN n : Nat) : Int) := by
  refine Runs_fn (m := 8) (by kernel_rfl) Tryd.func50 rfl (by kernel_rfl) (by kernel_rfl) ?_
  repeat' (
    first
      | refine W_seq ?_
      | refine WO_nil ?_
      | refine V_seq ?_
      | refine W_region ?_
      | refine W_skip ?_
      | refine W_ret ?_
      | refine V_ret ?_
      | refine WO_dst rfl rfl (by kernel_rfl) (by kernel_rfl) ?_
      | refine Ev_move rfl ?_
      | refine Ev_assign rfl ?_
      | refine Ev_lss rfl rfl ?_
      | refine Ev_gtr rfl rfl ?_
      | (refine W_cond rfl (fun hc => ?_) (fun hc => ?_) <;> (try dsimp only at hc) <;> try (exfalso; first | omega | exact hc rfl)))
  all_goals
    refine V_done rfl rfl ?_
    refine ⟨rfl, ?_⟩
    show AV.int .i64 _ = _
    congr 1
    unfold sizeN
    omega
/-- a writer, and what was written -/
structure Wr (S : St) (p : Nat) (vb : AV) (l : List Nat) : Prop where
  at_ : S.h.get p = some (.cells 79 [vb] false)
  ow : Ow S vb l
  ne : blkOf vb ≠ some p
/-- what a writer's work leaves as it was -/
structure WrF (S S' : St) (p : Nat) (vb vb' : AV) (k : Nat) : Prop where
  le : S.n ≤ S'.n
  n : S'.n ≤ S.n + k
  ok : Sok S'
  same : ∀ c, c ≠ p → blkOf vb ≠ some c → c < S.n → S'.h.get c = S.h.get c
  bk : ∀ c, blkOf vb' = some c → blkOf vb = some c ∨ S.n ≤ c
theorem WrF.refl {S : St} {p : Nat} {vb : AV} (hok : Sok S) : WrF S S p vb vb 0 := ⟨Nat.le_refl _, Nat.le_refl _, hok, fun _ _ _ _ => rfl, fun _ h => .inl h⟩
theorem WrF.trans {S S1 S2 : St} {p : Nat} {v v1 v2 : AV} {k k1 : Nat} (a : WrF S S1 p v v1 k) (b : WrF S1 S2 p v1 v2 k1) : WrF S S2 p v v2 (k + k1) := by
  refine ⟨Nat.le_trans a.le b.le, by have := a.n; have := b.n; omega, b.ok, fun c h1 h2 h3 => ?_, fun c h => ?_⟩
  · rw [b.same c h1 (fun h => by rcases a.bk c h with g | g; exact h2 g; omega) (by have := a.le; omega), a.same c h1 h2 h3]
  · rcases b.bk c h with g | g
    · exact a.bk c g
    · exact .inr (by have := a.le; omega)
theorem number_runs {S : St} {p : Nat} {vb : AV} {l : List Nat} {n b : Int} (hok : Sok S) (hw : Wr S p vb l) (hl : l.length ≤ 1000000000) (hn : S.n + 16 ≤ 1000000000) :
    Runs X1 17 [.ptr p 0, .int .i64 n, .int .i64 b] S fun _ S' => ∃ vb', Wr S' p vb' (l ++ numL n (sizeN b)) ∧ WrF S S' p vb vb' 16 := by
  have hsz := sizeN_le b
  have hp : p < S.n := hok _ _ hw.at_
  refine Runs_fn (m := 28) (by kernel_rfl) Tryd.func17 rfl (by kernel_rfl) (by kernel_rfl) ?_
  repeat (
    first
      | refine W_seq ?_
      | refine W_region ?_
      | refine WO_dst rfl rfl (by kernel_rfl) (by kernel_rfl) ?_
      | refine Ev_move rfl ?_)
  refine Ev_call rfl rfl ((size_runs b S).mono ?_)
  rintro _ _ - ⟨rfl, rfl⟩
  repeat (
    first
      | refine WO_nil ?_
      | refine V_seq ?_
      | refine W_block ?_
      | refine WO_dst rfl rfl (by kernel_rfl) (by kernel_rfl) ?_
      | refine Ev_assign rfl ?_
      | refine Ev_subN rfl rfl (by simp only [lim]; omega) (by first | omega | (dsimp only; done) | (dsimp only; omega)) ?_)
  rename_i S
  have hs6 : some (AV.int .i64 ((sizeN b - 1 : Nat) : Int)) = some (AV.int .i64 (((sizeN b : Nat) : Int) - 1)) := by congr 2; omega
  refine W_inv (fun a : Nat × AV × List Nat => [(6, .int .i64 (((a.1 : Nat) : Int) - 1)), (0, .ptr p 0), (1, .int .i64 n)]) (fun a T => Wr T p a.2.1 a.2.2 ∧ a.2.2 ++ numL n a.1 = l ++ numL n (sizeN b) ∧ a.1 ≤ sizeN b ∧ WrF S T p vb a.2.1 (2 * (sizeN b - a.1))) (fun a => a.1) ?_ (sizeN b, vb, l) ⟨hw, rfl, Nat.le_refl _, by rw [Nat.sub_self]; exact WrF.refl hok⟩ ⟨hs6, rfl, rfl, trivial⟩
  rintro ⟨j, v, l'⟩ T ⟨hwT, heq, hj, hF⟩ back
  dsimp only at hwT heq hj hF back
  have hFn := hF.n; have hFl := hF.le
  have hll : l'.length ≤ 1000000008 := by have h := congrArg List.length heq; simp only [List.length_append, numL_len] at h; omega
  cases j with
  | zero =>
    show W X1 28 _ _ _ [(6, .int .i64 (-1)), (0, .ptr p 0), (1, .int .i64 n)] T
    repeat' (
      first
        | refine W_seq ?_
        | refine WO_nil ?_
        | refine V_seq ?_
        | refine W_region ?_
        | refine W_exit ?_
        | refine V_block_x rfl ?_
        | refine V_seq_x ?_
        | refine V_loop_x ?_
        | refine W_cond_f rfl ?_
        | refine WO_dst rfl rfl (by kernel_rfl) (by kernel_rfl) ?_
        | refine Ev_move rfl ?_
        | refine Ev_geq rfl rfl ?_)
    refine V_done rfl rfl ?_
    refine ⟨v, ?_, ⟨hF.le, by omega, hF.ok, hF.same, hF.bk⟩⟩
    rw [← heq]; simpa [numL] using hwT
  | succ j =>
    have hjj : (((j + 1 : Nat) : Int) - 1) = ((j : Nat) : Int) := by omega
    show W X1 28 _ _ _ [(6, .int .i64 (((j + 1 : Nat) : Int) - 1)), (0, .ptr p 0), (1, .int .i64 n)] T
    rw [hjj]
    repeat' (
      first
        | refine W_seq ?_
        | refine WO_nil ?_
        | refine V_seq ?_
        | refine W_region ?_
        | refine W_drawn (by kernel_rfl) ?_
        | refine W_block ?_
        | refine W_skip ?_
        | refine W_cond_t rfl ?_
        | refine WO_dst rfl rfl (by kernel_rfl) (by kernel_rfl) ?_
        | refine Ev_load rfl rfl rfl hwT.at_ rfl hwT.ow.rd.self ?_
        | refine Ev_shrV rfl rfl (by simp only [Go.IntKind.bits]; omega) ?_
        | refine Ev_conv8i rfl rfl rfl rfl rfl ?_
        | refine Ev_move rfl ?_
        | refine Ev_geqN rfl rfl ?_
        | refine Ev_nilCheck rfl ?_
        | refine Ev_fieldAddr rfl rfl rfl rfl rfl rfl ?_
        | refine Ev_mulN rfl rfl (by simp only [lim]; omega) ?_)
    refine Ev_buildSlice rfl rfl rfl rfl rfl rfl hF.ok (by omega) ?_
    intro S1 hn1 hok1 hq1 hf1
    have hpT : p < T.n := hF.ok _ _ hwT.at_
    have ho1 := hwT.ow.keep (fun b hb => hf1 b (hwT.ow.lt hF.ok hb))
    repeat (
      refine WO_dst rfl rfl (by kernel_rfl) (by kernel_rfl) ?_)
    refine Ev_append rfl rfl rfl rfl rfl rfl rfl rfl rfl rfl ho1 (Rd_lit hq1 rfl (by kernel_rfl)) rfl hok1 (by omega) (by dsimp only; omega) (by omega) ?_
    intro v2 S2 hle2 hn2 hok2 hown2 hf2 hb2
    have hp2 : S2.h.get p = some (.cells 79 [v] false) := by rw [hf2 p hwT.ne (by omega), hf1 p hpT, hwT.at_]
    repeat (
      first
        | refine WO_dst rfl rfl (by kernel_rfl) (by kernel_rfl) ?_
        | refine WO_no rfl rfl ?_
        | refine Ev_nilCheck rfl ?_
        | refine Ev_fieldAddr rfl rfl rfl rfl rfl rfl ?_)
    refine Ev_store_sl rfl rfl hown2.rd.sl rfl rfl hp2 (by simp) (by omega) ?_
    intro S3 hn3 hp3 hf3
    repeat (
      first
        | refine WO_nil ?_
        | refine V_seq ?_
        | refine W_region ?_
        | refine V_block ?_
        | refine WO_dst rfl rfl (by kernel_rfl) (by kernel_rfl) ?_
        | refine Ev_move rfl ?_
        | refine Ev_assign rfl ?_
        | refine Ev_sub rfl rfl (by simp only [inR]; omega) ?_)
    have hb2' : ∀ c, blkOf v2 = some c → blkOf v = some c ∨ T.n ≤ c := fun c hc => (hb2 c hc).imp id (fun h => by omega)
    refine back (j, v2, l' ++ [byteAt n j]) S3 _ (Nat.lt_succ_self j) ⟨⟨hp3, ?_, ?_⟩, ?_, by omega, ?_⟩ ⟨rfl, rfl, rfl, trivial⟩
    · have h4 : Own S3 v2 5 1 (sbytes l' ++ lput (rep [AV.int .u8 0] 1) 0 [AV.int .u8 ((byteAt n j : Nat) : Int)]) (l'.length + 1) := hown2.keep fun c hc => hf3 c (fun h => by subst h; rcases hb2' _ hc with g | g; exact hwT.ne g; omega)
      refine h4.eq ?_ (by simp)
      rw [sbytes_app]; rfl
    · intro h; rcases hb2' _ h with g | g; exact hwT.ne g; omega
    · rw [← heq]; simp [numL]
    · have hF2 : WrF T S3 p v v2 2 := ⟨by omega, by omega, Sok.upd hok2 (by omega) hn3 hp3 hf3, fun c h1 h2 h3 => by rw [hf3 c h1, hf2 c h2 (by omega), hf1 c h3], hb2'⟩
      have h5 := hF.trans hF2
      refine ⟨h5.le, ?_, h5.ok, h5.same, h5.bk⟩
      have := h5.n
      omega
end Go.Proofs.YtnlfcoojlgdgaaaDoor
