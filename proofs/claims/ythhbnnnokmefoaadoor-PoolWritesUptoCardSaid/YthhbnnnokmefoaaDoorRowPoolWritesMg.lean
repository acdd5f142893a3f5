/- 'carafe/carafelaw3.PoolWrites' returns true for all arguments, that are together of at most 1048576 values and letters, whatever the world in which the listed tables lie as the program's text lays them: the tied card, as given. -/
import Derived.Test.YthhbnnnokmefoaaDoorTie
import Derived.Test.YthhbnnnokmefoaaDoorCards
import Derived.Test.YthhbnnnokmefoaaDoorMg12
import Derived.WalkKit
import Derived.ProofKit
import Derived.OpenShut
import Derived.ShutString
import Derived.LaidMore
import Derived.Lay
import Derived.SevenTiedAt
import Derived.Stop.Joined
import Derived.Deep.DeepHandedRow
import Derived.Lib.LaidU8T
import Derived.Carry
import Derived.Below
import Derived.Test.YthhbnnnokmefoaaDoorMg14
namespace Go.Proofs.YthhbnnnokmefoaaDoor.poolWrites
open Go.ChangeShapes Go.WideShapes Go.ChangeAt Go.RowKit Go.Lib
open Go.ChangeMaps (open_string shut_string)
open GX
theorem own : ownKnob Tryd.prog.godebug = none := by kernel_rfl
theorem laid_is : Rows.poolWritesUptoRow.laid = [("unicode/utf8.acceptRanges", acceptData), ("unicode/utf8.first", firstData)] := by kernel_rfl
/-- the two tables, as they are laid -/
theorem tabs (W : World) (hL : laidMetH Tryd.prog Rows.poolWritesUptoRow.laid W) : Lib.Utf8Tabs (Tryd.laysValid_ren.g 3) (Tryd.laysValid_ren.g 4) W := by
  rw [MakeChecks.laidMetH_plain _ _ _ (by kernel_rfl), laid_is] at hL
  exact utf8Tabs_of_readsT (U8Types.of196 Tryd.laysValid) ⟨by kernel_rfl, by kernel_rfl, by kernel_rfl, by kernel_rfl, by kernel_rfl, by kernel_rfl, by kernel_rfl⟩
    (Lib.laidMet.reads hL (List.mem_of_getElem? (i := 1) rfl)) (Lib.laidMet.reads hL (List.mem_of_getElem? (i := 0) rfl))
set_option maxRecDepth 100000
theorem laidOut : laidOutB Tryd.prog = true := by kernel_rfl
theorem bulk_le {H : Type} {l : List (DataW H)} {d : DataW H} (h : d ∈ l) : Rows.uptoBulk d ≤ Rows.uptoBulkAll l := by
  induction l with
  | nil => cases h
  | cons a l ih =>
    simp only [Rows.uptoBulkAll]
    rcases List.mem_cons.1 h with rfl | h
    · omega
    · have := ih h; omega
theorem bulk_pos {H : Type} (d : DataW H) : 1 ≤ Rows.uptoBulk d := by
  cases d with
  | lit l => cases l <;> simp [Rows.uptoBulk]
  | _ => simp [Rows.uptoBulk]
theorem bulk_len {H : Type} (l : List (DataW H)) : l.length ≤ Rows.uptoBulkAll l := by
  induction l with
  | nil => simp [Rows.uptoBulkAll]
  | cons d l ih =>
    have := bulk_pos d
    simp only [Rows.uptoBulkAll, List.length_cons]; omega
theorem bulk_ok (H : Type) : BulkOK (H := H) Rows.uptoBulk where
  str := fun l => by simp [Rows.uptoBulk]
  ptr := fun d => by simp [Rows.uptoBulk]
  len := fun l r => by have := bulk_len l; simp only [Rows.uptoBulk]; omega
  sl := fun l r d hd => by have := bulk_le hd; simp only [Rows.uptoBulk]; omega
  agg := fun l d hd => by have := bulk_le hd; simp only [Rows.uptoBulk]; omega
theorem walk (H : Type) (enc : TypeId × Value → H) (w : World) (v : Value) (us : Array Value) (n2 n3 : Int) (d e : DataW H) (p q : List MemPlace) (fuel fuel2 : Nat) (h : DataW.trod enc Tryd.prog w 0 (fun _ => true) true fuel 22 [v] = some (d, p)) (h' : DataW.trod enc Tryd.prog w 0 (fun _ => true) true fuel2 24 us.toList = some (e, q)) (hb : Rows.uptoBulk d ≤ 1048576) (hb' : Rows.uptoBulk e ≤ 1048576) (hT : Lib.Utf8Tabs (Tryd.laysValid_ren.g 3) (Tryd.laysValid_ren.g 4) w) :
    Calls Tryd.prog 3 #[v, .agg us, .int .i64 n2, .int .i64 n3] w fun e w' => e = .returned (.bool true) ∧ Below w.heap.size w w' := by
  letI : Val := ⟨fun _ => 0, fun g => w.heap[g]?⟩
  obtain ⟨avs, h1, _, h3⟩ := trod_rel (φ := φ0) (N := 1048576) (fun _ _ h => h) (bulk_ok H) 5 22 fuel [v] (d, p) (by kernel_rfl) h hb
  obtain ⟨bvs, g1, _, g3⟩ := trod_rel (φ := φ0) (N := 1048576) (fun _ _ h => h) (bulk_ok H) 5 24 fuel2 us.toList (e, q) (by kernel_rfl) h' hb'
  have hl := vrels_length h1
  match avs, hl with
  | [av], _ =>
    obtain ⟨cs, k1, k2, _⟩ := consts_arg (by omega) h3
    obtain ⟨c, hc, m1, m2⟩ := const_of (by omega) g3
    subst hc
    have hv : vrels φ0 [.agg c.cells, .int .i64 n2, .int .i64 n3] [Value.agg us, Value.int .i64 n2, Value.int .i64 n3] := vrels_cons (by simp only [vrel]; exact ⟨_, rfl, g1⟩) (vrels_cons (by simp only [vrel]) (vrels_cons (by simp only [vrel]) vrels_nil))
    exact Runs_true xok1 (ext1_ok (tabs_all w hT)) rfl (pwrites_runs (n0 := n2) (k0 := n3) Sok_leaf k1 k2 m1 m2 (Nat.zero_le _)) (vrels_append h1 hv) w (fun _ _ h => h)

theorem contract (H : Type) (enc : TypeId × Value → H) (W : World) (base : Nat) (args : Array Value) (ds gs : List (DataW H)) (before : List MemPlace)
    (hval : ∀ (j : Nat) t v, Tryd.f3.params[j]? = some t → args[j]? = some v → Value.okWide Tryd.prog W .any base t v)
    (hW : DataW.Whole enc Tryd.prog Tryd.f3.params.toList Rows.poolWritesSpec.vars false W args.toList ds gs before) (hk : Rows.uptoSmall H (ds ++ gs) = true) (hL : laidMetH Tryd.prog Rows.poolWritesUptoRow.laid W) :
    Calls Tryd.prog 3 args W fun e W' => ∃ v, e = .returned v ∧ Rows.poolWritesSpec.post enc Tryd.prog Tryd.f3 false true false false W args v W' := by
  have hW' := hW
  obtain ⟨p, q, hA0, hV, rfl, hfz, hnd⟩ := hW
  have hA : DataW.TrodAll enc Tryd.prog W 0 (fun _ => true) true Tryd.f3.params.toList args.toList ds p := hA0
  rw [Tryd.params3] at hA hval
  obtain ⟨v0, vs0, d0, ds0, p0, q0, hargs, rfl, rfl, h0, r0⟩ := trodAll_cons hA
  obtain ⟨v1, vs1, d1, ds1, p1, q1, rfl, rfl, rfl, h1, r1⟩ := trodAll_cons r0
  obtain ⟨v2, vs2, d2, ds2, p2, q2, rfl, rfl, rfl, h2, r2⟩ := trodAll_cons r1
  obtain ⟨v3, vs3, d3, ds3, p3, q3, rfl, rfl, rfl, h3, r3⟩ := trodAll_cons r2
  obtain ⟨rfl, rfl, rfl⟩ := trodAll_nil r3
  obtain rfl : args = #[v0, v1, v2, v3] := by cases args; simp_all
  obtain ⟨rfl, rfl⟩ := trodVars_none hV
  obtain ⟨a0, len0, cap0, rfl⟩ := okWide_slice u22 (hval 0 22 v0 rfl rfl)
  obtain ⟨us, rfl, _⟩ := okWide_struct u24 (hval 1 24 v1 rfl rfl)
  obtain ⟨n2, rfl, rfl, rfl, y2⟩ := open_int u3 (hval 2 3 v2 rfl rfl) h2
  obtain ⟨n3, rfl, rfl, rfl, y3⟩ := open_int u3 (hval 3 3 v3 rfl rfl) h3
  have k0 := h0
  have k1 := h1
  have lt0 : ∀ x ∈ p0, x.block < W.heap.size := by obtain ⟨m, hm⟩ := k0; exact DataW.trod_lt m _ _ _ hm
  have lt1 : ∀ x ∈ p1, x.block < W.heap.size := by obtain ⟨m, hm⟩ := k1; exact DataW.trod_lt m _ _ _ hm
  have hb := of_decide_eq_true hk
  simp only [List.append_nil, Rows.uptoBulkAll] at hb
  obtain ⟨fuel, hf⟩ := h0
  obtain ⟨fuel2, hf2⟩ := h1
  refine (walk H enc W _ us n2 n3 d0 d1 p0 p1 fuel fuel2 hf hf2 (by omega) (by omega) (tabs W hL)).mono fun e W' ⟨he, bel⟩ => ?_
  subst he
  simp only [List.append_nil] at hW'
  exact ⟨_, rfl, _, _, _, [], _, [], hW', trodAll_mk1 (shut_bool Tryd.underlying4 _), (trodAll_cons_mk (Below.trod laidOut (by kernel_rfl) (of_decide_eq_true (by kernel_rfl)) k0 bel lt0) (trodAll_cons_mk (Below.trod laidOut (by kernel_rfl) (of_decide_eq_true (by kernel_rfl)) k1 bel lt1) (trodAll_cons_mk (shut_int u3 y2) (trodAll_cons_mk (shut_int u3 y3) trodAll_mk0)))), rfl, bel.frame _, fun h => by cases h⟩

theorem laid_met (os : Os) : laidMetH Tryd.prog Rows.poolWritesUptoRow.laid ((World.laidAll Tryd.prog os Rows.poolWritesUptoRow.laid).forCall (fun _ _ => 0) ⟨#[], #[.slice none 0 0, .agg #[.int .i64 0, .int .i32 0, .string ByteArray.empty, .string ByteArray.empty, .string ByteArray.empty], .int .i64 0, .int .i64 0], []⟩).memory := by
  rw [MakeChecks.laidMetH_plain _ _ _ (by kernel_rfl)]; exact laidMet_laidAll _ (by kernel_rfl) (by kernel_rfl)
theorem reads (os : Os) {H : Type} (enc : TypeId × Value → H) : ∃ places, DataW.whole enc Tryd.prog ((World.laidAll Tryd.prog os Rows.poolWritesUptoRow.laid).forCall (fun _ _ => 0) ⟨#[], #[.slice none 0 0, .agg #[.int .i64 0, .int .i32 0, .string ByteArray.empty, .string ByteArray.empty, .string ByteArray.empty], .int .i64 0, .int .i64 0], []⟩).memory Tryd.f3.params.toList Rows.poolWritesSpec.vars false (#[.slice none 0 0, .agg #[.int .i64 0, .int .i32 0, .string ByteArray.empty, .string ByteArray.empty, .string ByteArray.empty], .int .i64 0, .int .i64 0] : Array Value).toList 8 = some ([.nil, .agg [.lit (.int .i64 0), .lit (.int .i32 0), .lit (.string []), .lit (.string []), .lit (.string [])], .lit (.int .i64 0), .lit (.int .i64 0)], [], places) :=
  ⟨[], by kernel_rfl⟩
set_option maxRecDepth 100000 in
theorem lifted (os : Os) (started : os.Started) (H : Type) (enc : TypeId × Value → H) (F : Stop.Interp) :
    ReturnsInHanded {} Tryd.checked os 3 .any ((Rows.OpenSpec.upto Rows.poolWritesSpec).preRow enc Tryd.prog Tryd.f3 Rows.poolWritesUptoRow.domain false Rows.poolWritesUptoRow.laid) (((Rows.OpenSpec.upto Rows.poolWritesSpec).at F).post enc Tryd.prog Tryd.f3 false true false false) := by
  obtain ⟨places, hx⟩ := reads os enc
  have hsh : (((World.laidAll Tryd.prog os Rows.poolWritesUptoRow.laid)).forCall (fun _ _ => 0) ⟨#[], #[.slice none 0 0, .agg #[.int .i64 0, .int .i32 0, .string ByteArray.empty, .string ByteArray.empty, .string ByteArray.empty], .int .i64 0, .int .i64 0], []⟩).Shaped Tryd.prog := World.shaped_of_ZipB (by kernel_rfl) (by kernel_rfl)
  have hok : Input.okWideB Tryd.prog ((World.laidAll Tryd.prog os Rows.poolWritesUptoRow.laid).forCall (fun _ _ => 0) ⟨#[], #[.slice none 0 0, .agg #[.int .i64 0, .int .i32 0, .string ByteArray.empty, .string ByteArray.empty, .string ByteArray.empty], .int .i64 0, .int .i64 0], []⟩) 3 ⟨#[], #[.slice none 0 0, .agg #[.int .i64 0, .int .i32 0, .string ByteArray.empty, .string ByteArray.empty, .string ByteArray.empty], .int .i64 0, .int .i64 0], []⟩ = true := by kernel_rfl
  refine returnsInHanded_of_row (C := Tryd.checked) (s := (Rows.OpenSpec.upto Rows.poolWritesSpec)) own started (by kernel_rfl) Tryd.func3
    ⟨World.laidAll Tryd.prog os Rows.poolWritesUptoRow.laid, fun _ _ => 0, ⟨#[], #[.slice none 0 0, .agg #[.int .i64 0, .int .i32 0, .string ByteArray.empty, .string ByteArray.empty, .string ByteArray.empty], .int .i64 0, .int .i64 0], []⟩, World.laidAll_os _ _ _, hsh, (Input.okWide_of_okWideB (base := 0) hok).1, (Input.okWide_of_okWideB hok).2,
      OpenSpec.preRow_of_cond 8 hx (by kernel_rfl) (fun k hk => by cases hk; kernel_rfl) (by kernel_rfl) (laid_met os), by
        simp only [Assume.holds]
        exact ⟨by simp, by simp, fun _ => Modest.zero, by simp, by simp⟩⟩ ?_
  intro W base args ds gs before hval hW _ hcond _ hL _ _
  exact contract H enc W base args ds gs before hval hW (hcond _ rfl) hL
theorem over : Rows.PoolWritesUptoSaid :=
  OpenClaim.holds_of_cond 3 Tryd.f3 rfl rfl rfl rfl rfl rfl rfl ⟨rfl, rfl, rfl, rfl, rfl⟩ rfl rfl rfl rfl rfl (by kernel_rfl) Tryd.func3 (by kernel_rfl)
    (of_decide_eq_true (by kernel_rfl)) (by unfold Func.isWrapper; first | (rw [if_pos (by decide +kernel)]; kernel_rfl) | (rw [if_neg (by decide +kernel)]; exact ⟨rfl, rfl⟩))
    (fun os started H enc _ F => by rw [OpenClaim.pre_eq_preRow]; exact lifted os started H enc F)
/-- No parameter wants a stand-in; the program's own looks are off. -/
theorem plain (f : FuncId) (fn : Func) (hf : Tryd.pinned.checked.prog.funcNamed "carafe/carafelaw3.PoolWrites" = some f) (hfn : Tryd.pinned.checked.prog.funcs[f]? = some fn) :
    false = Tryd.pinned.checked.prog.looks [] ∧ ∀ (j : Nat) t, fn.params[j]? = some t → Tryd.pinned.checked.prog.wantsStandIn t = false := by
  obtain rfl : f = 3 := Option.some.inj ((show Tryd.prog.funcNamed "carafe/carafelaw3.PoolWrites" = some 3 by kernel_rfl).symm.trans hf) |>.symm
  obtain rfl : fn = Tryd.f3 := (Option.some.inj (Tryd.func3.symm.trans hfn)).symm
  refine ⟨by kernel_rfl, fun j t ht => ?_⟩
  rw [Tryd.params3] at ht
  have hm := Array.mem_of_getElem? ht
  simp at hm
  rcases hm with rfl | rfl | rfl
  · exact (show Tryd.prog.wantsStandIn 22 = false by kernel_rfl)
  · exact (show Tryd.prog.wantsStandIn 24 = false by kernel_rfl)
  · exact (show Tryd.prog.wantsStandIn 3 = false by kernel_rfl)
/-- THE STATEMENT -/
theorem proved : Rows.PoolWritesUptoCardSaid :=
  Claim7.holds_tied_plain_at .later [] _ _ _ _ over (fun _ h => by cases h) (by kernel_rfl) (fun _ h => by cases h) poolWritesUpto_row_tie rfl ⟨rfl, rfl⟩ (by kernel_rfl) rfl plain (by kernel_rfl)
end Go.Proofs.YthhbnnnokmefoaaDoor.poolWrites
namespace Go.Proofs.YthhbnnnokmefoaaDoor
/-- The card, under a short name, for the claim. -/
theorem poolWritesUpto_holds : Rows.PoolWritesUptoCardSaid := poolWrites.proved
end Go.Proofs.YthhbnnnokmefoaaDoor
