/- 'carafe/carafelaw1.MutfKept' returns true for all arguments, that are together of at most 1048576 values and letters, whatever the world in which the listed tables lie as the program's text lays them: the tied card, as given. -/
import Derived.Test.YtnlfcoojlgdgaaaDoorTie
import Derived.Test.YtnlfcoojlgdgaaaDoorCards
import Derived.Test.YtnlfcoojlgdgaaaDoorMg11
import Derived.WalkKit
import Derived.ProofKit
import Derived.OpenShut
import Derived.ShutString
import Derived.LaidMore
import Derived.Lay
import Derived.SevenTiedAt
import Derived.Stop.Joined
import Derived.Deep.DeepHandedRow
import Derived.Lib.LaidU8T
import Derived.Carry
import Derived.Below
namespace Go.Proofs.YtnlfcoojlgdgaaaDoor.mutfKept
open Go.ChangeShapes Go.WideShapes Go.ChangeAt Go.RowKit Go.Lib
open Go.ChangeMaps (open_string shut_string)
open GX
theorem own : ownKnob Tryd.prog.godebug = none := by kernel_rfl
theorem laid_is : Rows.mutfKeptUptoRow.laid = [("unicode/utf8.acceptRanges", acceptData), ("unicode/utf8.first", firstData)] := by kernel_rfl
/-- the two tables, as they are laid -/
theorem tabs (W : World) (hL : laidMetH Tryd.prog Rows.mutfKeptUptoRow.laid W) : Lib.Utf8Tabs (Tryd.laysValid_ren.g 3) (Tryd.laysValid_ren.g 4) W := by
  rw [MakeChecks.laidMetH_plain _ _ _ (by kernel_rfl), laid_is] at hL
  exact utf8Tabs_of_readsT (U8Types.of196 Tryd.laysValid) ⟨by kernel_rfl, by kernel_rfl, by kernel_rfl, by kernel_rfl, by kernel_rfl, by kernel_rfl, by kernel_rfl⟩
    (Lib.laidMet.reads hL (List.mem_of_getElem? (i := 1) rfl)) (Lib.laidMet.reads hL (List.mem_of_getElem? (i := 0) rfl))
theorem laidOut : laidOutB Tryd.prog = true := by kernel_rfl
theorem walk (w : World) (a : ByteArray) (v : Value) (ha : a.size ≤ 1048576) (hT : Lib.Utf8Tabs (Tryd.laysValid_ren.g 3) (Tryd.laysValid_ren.g 4) w)
    (hv : v = .slice none 0 0 ∨ ∃ (x : Addr) (len cap : Nat) (zs : List Int), v = .slice (some x) len cap ∧ len ≤ cap ∧ len ≤ 1048576 ∧ len ≤ zs.length ∧ (∀ i, i < zs.length → w.cell? (x.add i) = some (.int .u8 (zs.getD i 0))) ∧ ∀ n ∈ zs, (Lit.int .u8 n).wf = true) :
    Calls Tryd.prog 7 #[.string a, v] w fun e w' => e = .returned (.bool true) ∧ Below w.heap.size w w' := by
  letI : Val := ⟨fun _ => 0, fun g => w.heap[g]?⟩
  obtain ⟨av, l, h1, h2, h3, h4⟩ : ∃ av l, vrel φ0 av v ∧ (∀ S, Rd S av 1 (sbytes l) l.length) ∧ (∀ b ∈ l, b < 256) ∧ l.length ≤ 1048576 := by
    rcases hv with rfl | ⟨x, len, cap, zs, rfl, hl, hm, hz, hcell, hwf⟩
    · exact ⟨.nils, [], (arg_nil (φ := φ0)).1, (arg_nil (φ := φ0)).2, by simp, by simp⟩
    · obtain ⟨av, l, k1, k2, k3, k4⟩ := arg_bytes (φ := φ0) (fun _ _ h => h) hl hz hcell (fun n hn => wf_u8 (hwf n hn))
      exact ⟨av, l, k1, k2, k3, by omega⟩
  exact kept_calls (ext1_ok (tabs_all w hT)) (s := GX.bytes a) (by rw [bytes_length]; exact ha) h2 h4 (vrels_cons (str_rel _ a) (vrels_cons h1 vrels_nil)) w (fun _ _ h => h)

theorem contract (H : Type) (enc : TypeId × Value → H) (W : World) (base : Nat) (args : Array Value) (ds gs : List (DataW H)) (before : List MemPlace)
    (hval : ∀ (j : Nat) t v, Tryd.f7.params[j]? = some t → args[j]? = some v → Value.okWide Tryd.prog W .any base t v)
    (hW : DataW.Whole enc Tryd.prog Tryd.f7.params.toList Rows.mutfKeptSpec.vars false W args.toList ds gs before) (hk : Rows.uptoSmall H (ds ++ gs) = true) (hL : laidMetH Tryd.prog Rows.mutfKeptUptoRow.laid W) :
    Calls Tryd.prog 7 args W fun e W' => ∃ v, e = .returned v ∧ Rows.mutfKeptSpec.post enc Tryd.prog Tryd.f7 false true false false W args v W' := by
  have hW' := hW
  obtain ⟨p, q, hA0, hV, rfl, hfz, hnd⟩ := hW
  have hA : DataW.TrodAll enc Tryd.prog W 0 (fun _ => true) true Tryd.f7.params.toList args.toList ds p := hA0
  rw [Tryd.params7] at hA hval
  obtain ⟨v0, vs0, d0, ds0, p0, q0, hargs, rfl, rfl, h0, r0⟩ := trodAll_cons hA
  obtain ⟨v1, vs1, d1, ds1, p1, q1, rfl, rfl, rfl, h1, r1⟩ := trodAll_cons r0
  obtain ⟨rfl, rfl, rfl⟩ := trodAll_nil r1
  obtain rfl : args = #[v0, v1] := by cases args; simp_all
  obtain ⟨rfl, rfl⟩ := trodVars_none hV
  obtain ⟨a0, rfl, rfl, rfl, y0⟩ := open_string Tryd.underlying9 (hval 0 9 v0 rfl rfl) h0
  have k1 := h1
  have lt1 : ∀ x ∈ p1, x.block < W.heap.size := by obtain ⟨m, hm⟩ := k1; exact DataW.trod_lt m _ _ _ hm
  have hb := of_decide_eq_true hk
  simp only [List.append_nil, Rows.uptoBulkAll, Rows.uptoBulk, Array.length_toList] at hb
  have hb0 : a0.size ≤ 1048576 := by show a0.data.size ≤ _; omega
  obtain ⟨a1, len1, cap1, rfl⟩ := okWide_slice Tryd.underlying22 (hval 1 22 v1 rfl rfl)
  have hv : (Value.slice a1 len1 cap1) = .slice none 0 0 ∨ ∃ (x : Addr) (len cap : Nat) (zs : List Int), (Value.slice a1 len1 cap1) = .slice (some x) len cap ∧ len ≤ cap ∧ len ≤ 1048576 ∧ len ≤ zs.length ∧ (∀ i, i < zs.length → W.cell? (x.add i) = some (.int .u8 (zs.getD i 0))) ∧ ∀ n ∈ zs, (Lit.int .u8 n).wf = true := by
    obtain ⟨fuel, hf⟩ := h1
    rcases open_ints Tryd.underlying22 Tryd.underlying5 (by kernel_rfl) hf with ⟨hcs, _⟩ | ⟨x, l, c, zs, hcs, _, hl, hm, hz, hx, hcell, hwz⟩
    · simp [Value.cells] at hcs
      obtain ⟨rfl, rfl, rfl⟩ := hcs
      exact .inl rfl
    · simp [Value.cells] at hcs
      obtain ⟨rfl, rfl, rfl⟩ := hcs
      have hd := congrArg Prod.fst hx
      dsimp only at hd
      subst hd
      have hlz : len1 ≤ zs.length := by rw [hz]; split <;> omega
      refine .inr ⟨x, len1, cap1, zs, rfl, hl, ?_, hlz, hcell, hwz⟩
      have h9 : ∀ (l : List (DataW H)), l.length ≤ Rows.uptoBulkAll l := by
        intro l
        induction l with
        | nil => simp [Rows.uptoBulkAll]
        | cons d l ih =>
          have : 1 ≤ Rows.uptoBulk d := by
            cases d with
            | lit l => cases l <;> simp [Rows.uptoBulk]
            | _ => simp [Rows.uptoBulk]
          simp only [Rows.uptoBulkAll, List.length_cons]; omega
      have h10 := h9 (lits .u8 (zs.take len1))
      have h11 : (lits (H := H) .u8 (zs.take len1)).length = len1 := by unfold lits; simp; omega
      simp only [Rows.uptoBulk] at hb
      omega
  refine (walk W a0 _ hb0 (tabs W hL) hv).mono fun e W' ⟨he, bel⟩ => ?_
  subst he
  simp only [List.append_nil] at hW'
  exact ⟨_, rfl, _, _, _, [], _, [], hW', trodAll_mk1 (shut_bool Tryd.underlying4 _), (trodAll_cons_mk (shut_string Tryd.underlying9 y0) (trodAll_cons_mk (Below.trod laidOut (by kernel_rfl) (of_decide_eq_true (by kernel_rfl)) k1 bel lt1) trodAll_mk0)), rfl, bel.frame _, fun h => by cases h⟩

theorem laid_met (os : Os) : laidMetH Tryd.prog Rows.mutfKeptUptoRow.laid ((World.laidAll Tryd.prog os Rows.mutfKeptUptoRow.laid).forCall (fun _ _ => 0) ⟨#[], #[.string ByteArray.empty, .slice none 0 0], []⟩).memory := by
  rw [MakeChecks.laidMetH_plain _ _ _ (by kernel_rfl)]; exact laidMet_laidAll _ (by kernel_rfl) (by kernel_rfl)
theorem reads (os : Os) {H : Type} (enc : TypeId × Value → H) : ∃ places, DataW.whole enc Tryd.prog ((World.laidAll Tryd.prog os Rows.mutfKeptUptoRow.laid).forCall (fun _ _ => 0) ⟨#[], #[.string ByteArray.empty, .slice none 0 0], []⟩).memory Tryd.f7.params.toList Rows.mutfKeptSpec.vars false (#[.string ByteArray.empty, .slice none 0 0] : Array Value).toList 8 = some ([.lit (.string []), .nil], [], places) :=
  ⟨[], by kernel_rfl⟩
set_option maxRecDepth 100000 in
theorem lifted (os : Os) (started : os.Started) (H : Type) (enc : TypeId × Value → H) (F : Stop.Interp) :
    ReturnsInHanded {} Tryd.checked os 7 .any ((Rows.OpenSpec.upto Rows.mutfKeptSpec).preRow enc Tryd.prog Tryd.f7 Rows.mutfKeptUptoRow.domain false Rows.mutfKeptUptoRow.laid) (((Rows.OpenSpec.upto Rows.mutfKeptSpec).at F).post enc Tryd.prog Tryd.f7 false true false false) := by
  obtain ⟨places, hx⟩ := reads os enc
  have hsh : (((World.laidAll Tryd.prog os Rows.mutfKeptUptoRow.laid)).forCall (fun _ _ => 0) ⟨#[], #[.string ByteArray.empty, .slice none 0 0], []⟩).Shaped Tryd.prog := World.shaped_of_ZipB (by kernel_rfl) (by kernel_rfl)
  have hok : Input.okWideB Tryd.prog ((World.laidAll Tryd.prog os Rows.mutfKeptUptoRow.laid).forCall (fun _ _ => 0) ⟨#[], #[.string ByteArray.empty, .slice none 0 0], []⟩) 7 ⟨#[], #[.string ByteArray.empty, .slice none 0 0], []⟩ = true := by kernel_rfl
  refine returnsInHanded_of_row (C := Tryd.checked) (s := (Rows.OpenSpec.upto Rows.mutfKeptSpec)) own started (by kernel_rfl) Tryd.func7
    ⟨World.laidAll Tryd.prog os Rows.mutfKeptUptoRow.laid, fun _ _ => 0, ⟨#[], #[.string ByteArray.empty, .slice none 0 0], []⟩, World.laidAll_os _ _ _, hsh, (Input.okWide_of_okWideB (base := 0) hok).1, (Input.okWide_of_okWideB hok).2,
      OpenSpec.preRow_of_cond 8 hx (by kernel_rfl) (fun k hk => by cases hk; kernel_rfl) (by kernel_rfl) (laid_met os), by
        simp only [Assume.holds]
        exact ⟨by simp, by simp, fun _ => Modest.zero, by simp, by simp⟩⟩ ?_
  intro W base args ds gs before hval hW _ hcond _ hL _ _
  exact contract H enc W base args ds gs before hval hW (hcond _ rfl) hL
theorem over : Rows.MutfKeptUptoSaid :=
  OpenClaim.holds_of_cond 7 Tryd.f7 rfl rfl rfl rfl rfl rfl rfl ⟨rfl, rfl, rfl, rfl, rfl⟩ rfl rfl rfl rfl rfl (by kernel_rfl) Tryd.func7 (by kernel_rfl)
    (of_decide_eq_true (by kernel_rfl)) (by unfold Func.isWrapper; first | (rw [if_pos (by decide +kernel)]; kernel_rfl) | (rw [if_neg (by decide +kernel)]; exact ⟨rfl, rfl⟩))
    (fun os started H enc _ F => by rw [OpenClaim.pre_eq_preRow]; exact lifted os started H enc F)
/-- No parameter wants a stand-in; the program's own looks are off. -/
theorem plain (f : FuncId) (fn : Func) (hf : Tryd.pinned.checked.prog.funcNamed "carafe/carafelaw1.MutfKept" = some f) (hfn : Tryd.pinned.checked.prog.funcs[f]? = some fn) :
    false = Tryd.pinned.checked.prog.looks [] ∧ ∀ (j : Nat) t, fn.params[j]? = some t → Tryd.pinned.checked.prog.wantsStandIn t = false := by
  obtain rfl : f = 7 := Option.some.inj ((show Tryd.prog.funcNamed "carafe/carafelaw1.MutfKept" = some 7 by kernel_rfl).symm.trans hf) |>.symm
  obtain rfl : fn = Tryd.f7 := (Option.some.inj (Tryd.func7.symm.trans hfn)).symm
  refine ⟨by kernel_rfl, fun j t ht => ?_⟩
  rw [Tryd.params7] at ht
  have hm := Array.mem_of_getElem? ht
  simp at hm
  rcases hm with rfl | rfl
  · exact (show Tryd.prog.wantsStandIn 9 = false by kernel_rfl)
  · exact (show Tryd.prog.wantsStandIn 22 = false by kernel_rfl)
/-- THE STATEMENT -/
theorem proved : Rows.MutfKeptUptoCardSaid :=
  Claim7.holds_tied_plain_at .later [] _ _ _ _ over (fun _ h => by cases h) (by kernel_rfl) (fun _ h => by cases h) mutfKeptUpto_row_tie rfl ⟨rfl, rfl⟩ (by kernel_rfl) rfl plain (by kernel_rfl)
end Go.Proofs.YtnlfcoojlgdgaaaDoor.mutfKept
namespace Go.Proofs.YtnlfcoojlgdgaaaDoor
/-- The card, under a short name, for the claim. -/
theorem mutfKeptUpto_holds : Rows.MutfKeptUptoCardSaid := mutfKept.proved
end Go.Proofs.YtnlfcoojlgdgaaaDoor
