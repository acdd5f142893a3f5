/- 'carafe/carafelaw1.MutfJoined' returns true for all arguments that are together of at most 1048576 values and letters, whatever the world in which the listed tables lie as the program's text lays them: the tied card of the second form, as given. -/
import Derived.Test.YtnlfcoojlgdgaaaDoorTie
import Derived.Test.YtnlfcoojlgdgaaaDoorCards
import Derived.Test.YtnlfcoojlgdgaaaDoorWJoined
import Derived.WalkKit
import Derived.ProofKit
import Derived.OpenShut
import Derived.ShutString
import Derived.LaidMore
import Derived.Lay
import Derived.SevenTiedAt
import Derived.Stop.Joined
import Derived.Deep.DeepHandedRow
import Derived.Lib.LaidU8T
namespace Go.Proofs.YtnlfcoojlgdgaaaDoor.mutfJoined
open Go.ChangeShapes Go.WideShapes Go.ChangeAt Go.RowKit Go.Lib
open Go.ChangeMaps (open_string shut_string)
open GX
theorem own : ownKnob Tryd.prog.godebug = none := by kernel_rfl
theorem laid_is : Rows.mutfJoinedUptoRow.laid = [("unicode/utf8.acceptRanges", acceptData), ("unicode/utf8.first", firstData)] := by kernel_rfl
/-- the two tables, as they are laid -/
theorem tabs (W : World) (hL : laidMetH Tryd.prog Rows.mutfJoinedUptoRow.laid W) : Lib.Utf8Tabs (Tryd.laysValid_ren.g 3) (Tryd.laysValid_ren.g 4) W := by
  rw [MakeChecks.laidMetH_plain _ _ _ (by kernel_rfl), laid_is] at hL
  exact utf8Tabs_of_readsT (U8Types.of196 Tryd.laysValid) ⟨by kernel_rfl, by kernel_rfl, by kernel_rfl, by kernel_rfl, by kernel_rfl, by kernel_rfl, by kernel_rfl⟩
    (Lib.laidMet.reads hL (List.mem_of_getElem? (i := 1) rfl)) (Lib.laidMet.reads hL (List.mem_of_getElem? (i := 0) rfl))
theorem str_rel [Val] (φ : Phi) (s : ByteArray) : vrel φ (.str (GX.bytes s)) (.string s) := ⟨s, rfl, rfl⟩
theorem walk (w : World) (a b : ByteArray) (ha : a.size ≤ 1048576) (hb : b.size ≤ 1048576) (hT : Lib.Utf8Tabs (Tryd.laysValid_ren.g 3) (Tryd.laysValid_ren.g 4) w) :
    Calls Tryd.prog 5 #[.string a, .string b] w fun e w' => e = .returned (.bool true) ∧ Below w.heap.size w w' := by
  letI : Val := ⟨fun _ => 0, roOf w⟩
  exact Runs_true xok1 (ext1_ok (tabs_of w hT)) rfl (joined_runs (s := GX.bytes a) (t := GX.bytes b) Sok_leaf (by rw [bytes_length]; exact ha) (by rw [bytes_length]; exact hb) (Nat.zero_le _))
    (vrels_cons (str_rel _ a) (vrels_cons (str_rel _ b) vrels_nil)) w (roOf_here w)

theorem contract (H : Type) (enc : TypeId × Value → H) (W : World) (base : Nat) (args : Array Value) (ds gs : List (DataW H)) (before : List MemPlace)
    (hval : ∀ (j : Nat) t v, Tryd.f5.params[j]? = some t → args[j]? = some v → Value.okWide Tryd.prog W .any base t v)
    (hW : DataW.Whole enc Tryd.prog Tryd.f5.params.toList Rows.mutfJoinedSpec.vars false W args.toList ds gs before) (hk : Rows.uptoSmall H (ds ++ gs) = true) (hL : laidMetH Tryd.prog Rows.mutfJoinedUptoRow.laid W) :
    Calls Tryd.prog 5 args W fun e W' => ∃ v, e = .returned v ∧ Rows.mutfJoinedSpec.post enc Tryd.prog Tryd.f5 false true false false W args v W' := by
  have hW' := hW
  obtain ⟨p, q, hA0, hV, rfl, hfz, hnd⟩ := hW
  have hA : DataW.TrodAll enc Tryd.prog W 0 (fun _ => true) true Tryd.f5.params.toList args.toList ds p := hA0
  rw [Tryd.params5] at hA hval
  obtain ⟨v0, vs0, d0, ds0, p0, q0, hargs, rfl, rfl, h0, r0⟩ := trodAll_cons hA
  obtain ⟨v1, vs1, d1, ds1, p1, q1, rfl, rfl, rfl, h1, r1⟩ := trodAll_cons r0
  obtain ⟨rfl, rfl, rfl⟩ := trodAll_nil r1
  obtain rfl : args = #[v0, v1] := by cases args; simp_all
  obtain ⟨rfl, rfl⟩ := trodVars_none hV
  obtain ⟨a0, rfl, rfl, rfl, y0⟩ := open_string Tryd.underlying9 (hval 0 9 v0 rfl rfl) h0
  obtain ⟨a1, rfl, rfl, rfl, y1⟩ := open_string Tryd.underlying9 (hval 1 9 v1 rfl rfl) h1
  have hb := of_decide_eq_true hk
  simp only [List.append_nil, Rows.uptoBulkAll, Rows.uptoBulk, Array.length_toList] at hb
  have hb0 : a0.size ≤ 1048576 := by show a0.data.size ≤ _; omega
  have hb1 : a1.size ≤ 1048576 := by show a1.data.size ≤ _; omega
  refine (walk W a0 a1 hb0 hb1 (tabs W hL)).mono fun e W' ⟨he, hg⟩ => ?_
  subst he
  simp only [List.append_nil] at hW'
  exact ⟨_, rfl, post_kept (pa := []) (pv := []) hg hW' (fun _ _ _ => trodAll_cons_mk (shut_bool Tryd.underlying4 _) trodAll_mk0) (fun _ _ => trodAll_cons_mk (shut_string Tryd.underlying9 y0) (trodAll_cons_mk (shut_string Tryd.underlying9 y1) trodAll_mk0)) (fun _ _ => rfl) rfl
    (ok_one (by kernel_rfl) rfl (okWide_bool_mk Tryd.underlying4 _))⟩

theorem laid_met (os : Os) : laidMetH Tryd.prog Rows.mutfJoinedUptoRow.laid ((World.laidAll Tryd.prog os Rows.mutfJoinedUptoRow.laid).forCall (fun _ _ => 0) ⟨#[], #[.string ByteArray.empty, .string ByteArray.empty], []⟩).memory := by
  rw [MakeChecks.laidMetH_plain _ _ _ (by kernel_rfl)]; exact laidMet_laidAll _ (by kernel_rfl) (by kernel_rfl)
theorem reads (os : Os) {H : Type} (enc : TypeId × Value → H) : ∃ places, DataW.whole enc Tryd.prog ((World.laidAll Tryd.prog os Rows.mutfJoinedUptoRow.laid).forCall (fun _ _ => 0) ⟨#[], #[.string ByteArray.empty, .string ByteArray.empty], []⟩).memory Tryd.f5.params.toList Rows.mutfJoinedSpec.vars false (#[.string ByteArray.empty, .string ByteArray.empty] : Array Value).toList 8 = some ([.lit (.string []), .lit (.string [])], [], places) :=
  ⟨[], by kernel_rfl⟩
set_option maxRecDepth 100000 in
theorem lifted (os : Os) (started : os.Started) (H : Type) (enc : TypeId × Value → H) (F : Stop.Interp) :
    ReturnsInHanded {} Tryd.checked os 5 .any ((Rows.OpenSpec.upto Rows.mutfJoinedSpec).preRow enc Tryd.prog Tryd.f5 Rows.mutfJoinedUptoRow.domain false Rows.mutfJoinedUptoRow.laid) (((Rows.OpenSpec.upto Rows.mutfJoinedSpec).at F).post enc Tryd.prog Tryd.f5 false true false false) := by
  obtain ⟨places, hx⟩ := reads os enc
  have hsh : (((World.laidAll Tryd.prog os Rows.mutfJoinedUptoRow.laid)).forCall (fun _ _ => 0) ⟨#[], #[.string ByteArray.empty, .string ByteArray.empty], []⟩).Shaped Tryd.prog := World.shaped_of_ZipB (by kernel_rfl) (by kernel_rfl)
  have hok : Input.okWideB Tryd.prog ((World.laidAll Tryd.prog os Rows.mutfJoinedUptoRow.laid).forCall (fun _ _ => 0) ⟨#[], #[.string ByteArray.empty, .string ByteArray.empty], []⟩) 5 ⟨#[], #[.string ByteArray.empty, .string ByteArray.empty], []⟩ = true := by kernel_rfl
  refine returnsInHanded_of_row (C := Tryd.checked) (s := Rows.OpenSpec.upto Rows.mutfJoinedSpec) own started (by kernel_rfl) Tryd.func5
    ⟨World.laidAll Tryd.prog os Rows.mutfJoinedUptoRow.laid, fun _ _ => 0, ⟨#[], #[.string ByteArray.empty, .string ByteArray.empty], []⟩, World.laidAll_os _ _ _, hsh, (Input.okWide_of_okWideB (base := 0) hok).1, (Input.okWide_of_okWideB hok).2,
      OpenSpec.preRow_of_cond 8 hx (by kernel_rfl) (fun k hk => by cases hk; kernel_rfl) (by kernel_rfl) (laid_met os), by
        simp only [Assume.holds]
        exact ⟨by simp, by simp, fun _ => Modest.zero, by simp, by simp⟩⟩ ?_
  intro W base args ds gs before hval hW _ hcond _ hL _ _
  exact contract H enc W base args ds gs before hval hW (hcond _ rfl) hL
theorem over : Rows.MutfJoinedUptoSaid :=
  OpenClaim.holds_of_cond 5 Tryd.f5 rfl rfl rfl rfl rfl rfl rfl ⟨rfl, rfl, rfl, rfl, rfl⟩ rfl rfl rfl rfl rfl (by kernel_rfl) Tryd.func5 (by kernel_rfl)
    (of_decide_eq_true (by kernel_rfl)) (by unfold Func.isWrapper; first | (rw [if_pos (by decide +kernel)]; kernel_rfl) | (rw [if_neg (by decide +kernel)]; exact ⟨rfl, rfl⟩))
    (fun os started H enc _ F => by rw [OpenClaim.pre_eq_preRow]; exact lifted os started H enc F)
/-- No parameter wants a stand-in; the program's own looks are off. -/
theorem plain (f : FuncId) (fn : Func) (hf : Tryd.pinned.checked.prog.funcNamed "carafe/carafelaw1.MutfJoined" = some f) (hfn : Tryd.pinned.checked.prog.funcs[f]? = some fn) :
    false = Tryd.pinned.checked.prog.looks [] ∧ ∀ (j : Nat) t, fn.params[j]? = some t → Tryd.pinned.checked.prog.wantsStandIn t = false := by
  obtain rfl : f = 5 := Option.some.inj ((show Tryd.prog.funcNamed "carafe/carafelaw1.MutfJoined" = some 5 by kernel_rfl).symm.trans hf) |>.symm
  obtain rfl : fn = Tryd.f5 := (Option.some.inj (Tryd.func5.symm.trans hfn)).symm
  refine ⟨by kernel_rfl, fun j t ht => ?_⟩
  rw [Tryd.params5] at ht
  have hm := Array.mem_of_getElem? ht
  simp at hm
  subst hm; exact (show Tryd.prog.wantsStandIn _ = false by kernel_rfl)
/-- THE STATEMENT -/
theorem proved : Rows.MutfJoinedUptoCardSaid :=
  Claim7.holds_tied_plain_at .later [] _ _ _ _ over (fun _ h => by cases h) (by kernel_rfl) (fun _ h => by cases h) mutfJoinedUpto_row_tie rfl ⟨rfl, rfl⟩ (by kernel_rfl) rfl plain (by kernel_rfl)
end Go.Proofs.YtnlfcoojlgdgaaaDoor.mutfJoined
namespace Go.Proofs.YtnlfcoojlgdgaaaDoor
/-- The card, under a short name, for the claim. -/
theorem mutfJoinedUpto_holds : Rows.MutfJoinedUptoCardSaid := mutfJoined.proved
end Go.Proofs.YtnlfcoojlgdgaaaDoor
