/- 'carafe/carafelaw9.FramesKept' returns true for all arguments, that are together of at most 1048576 values and letters, whatever the world: the row as given. -/
import Derived.Test.YtgiinfjcpdfgiaaRows
import Derived.WalkKit
import Derived.ProofKit
import Derived.OpenShut
import Derived.ShutString
import Derived.JoinedCond
import Derived.Carry
import Derived.Below
import Derived.Test.YtgiinfjcpdfgiaaMg10
namespace Go.Proofs.Ytgiinfjcpdfgiaa.framesKept
open Go.ChangeShapes Go.WideShapes Go.ChangeAt Go.RowKit
open Go.ChangeMaps (open_string shut_string)
open GX
theorem own : ownKnob Try.prog.godebug = none := by kernel_rfl
set_option maxRecDepth 100000
theorem laidOut : laidOutB Try.prog = true := by kernel_rfl
theorem bulk_le {H : Type} {l : List (DataW H)} {d : DataW H} (h : d ∈ l) : Rows.uptoBulk d ≤ Rows.uptoBulkAll l := by
  induction l with
  | nil => cases h
  | cons a l ih =>
    simp only [Rows.uptoBulkAll]
    rcases List.mem_cons.1 h with rfl | h
    · omega
    · have := ih h; omega
theorem bulk_pos {H : Type} (d : DataW H) : 1 ≤ Rows.uptoBulk d := by
  cases d with
  | lit l => cases l <;> simp [Rows.uptoBulk]
  | _ => simp [Rows.uptoBulk]
theorem bulk_len {H : Type} (l : List (DataW H)) : l.length ≤ Rows.uptoBulkAll l := by
  induction l with
  | nil => simp [Rows.uptoBulkAll]
  | cons d l ih =>
    have := bulk_pos d
    simp only [Rows.uptoBulkAll, List.length_cons]; omega
theorem bulk_ok (H : Type) : BulkOK (H := H) Rows.uptoBulk where
  str := fun l => by simp [Rows.uptoBulk]
  ptr := fun d => by simp [Rows.uptoBulk]
  len := fun l r => by have := bulk_len l; simp only [Rows.uptoBulk]; omega
  sl := fun l r d hd => by have := bulk_le hd; simp only [Rows.uptoBulk]; omega
  agg := fun l d hd => by have := bulk_le hd; simp only [Rows.uptoBulk]; omega
theorem walk (H : Type) (enc : TypeId × Value → H) (w : World) (us : Array Value) (e : DataW H) (q : List MemPlace) (fuel2 : Nat) (h' : DataW.trod enc Try.prog w 0 (fun _ => true) true fuel2 24 us.toList = some (e, q)) (hb' : Rows.uptoBulk e ≤ 1048576) :
    Calls Try.prog 3 #[.agg us] w fun e w' => e = .returned (.bool true) ∧ Below w.heap.size w w' := by
  letI : Val := ⟨fun _ => 0, fun g => w.heap[g]?⟩
  obtain ⟨bvs, g1, _, g3⟩ := trod_rel (φ := φ0) (N := 1048576) (fun _ _ h => h) (bulk_ok H) 5 24 fuel2 us.toList (e, q) (by kernel_rfl) h' hb'
  obtain ⟨a, u1, u2, l1, l2, hc, m1, m2, k1, k2⟩ := frame_arg g3
  subst hc
  have hv : vrels φ0 [.agg [.int .i64 a, u1, u2]] [Value.agg us] := vrels_cons (by simp only [vrel]; exact ⟨_, rfl, g1⟩) vrels_nil
  exact kept_calls ext1_ok m1 m2 k1 k2 hv w (fun _ _ h => h)

theorem contract (H : Type) (enc : TypeId × Value → H) (W : World) (base : Nat) (args : Array Value) (ds gs : List (DataW H)) (before : List MemPlace)
    (hval : ∀ (j : Nat) t v, Try.f3.params[j]? = some t → args[j]? = some v → Value.okWide Try.prog W .any base t v)
    (hW : DataW.Whole enc Try.prog Try.f3.params.toList Rows.framesKeptSpec.vars false W args.toList ds gs before) (hk : Rows.uptoSmall H (ds ++ gs) = true) :
    Calls Try.prog 3 args W fun e W' => ∃ v, e = .returned v ∧ Rows.framesKeptSpec.post enc Try.prog Try.f3 false true false false W args v W' := by
  have hW' := hW
  obtain ⟨p, q, hA0, hV, rfl, hfz, hnd⟩ := hW
  have hA : DataW.TrodAll enc Try.prog W 0 (fun _ => true) true Try.f3.params.toList args.toList ds p := hA0
  rw [Try.params3] at hA hval
  obtain ⟨v0, vs0, d0, ds0, p0, q0, hargs, rfl, rfl, h0, r0⟩ := trodAll_cons hA
  obtain ⟨rfl, rfl, rfl⟩ := trodAll_nil r0
  obtain rfl : args = #[v0] := by cases args; simp_all
  obtain ⟨rfl, rfl⟩ := trodVars_none hV
  obtain ⟨us, rfl, _⟩ := okWide_struct u24 (hval 0 24 v0 rfl rfl)
  have k0 := h0
  have lt0 : ∀ x ∈ p0, x.block < W.heap.size := by obtain ⟨m, hm⟩ := k0; exact DataW.trod_lt m _ _ _ hm
  have hb := of_decide_eq_true hk
  simp only [List.append_nil, Rows.uptoBulkAll] at hb
  obtain ⟨fuel, hf⟩ := h0
  refine (walk H enc W us d0 p0 fuel hf (by omega)).mono fun e W' ⟨he, bel⟩ => ?_
  subst he
  simp only [List.append_nil] at hW'
  exact ⟨_, rfl, _, _, _, [], _, [], hW', trodAll_mk1 (shut_bool Try.underlying4 _), trodAll_cons_mk (Below.trod laidOut (by kernel_rfl) (of_decide_eq_true (by kernel_rfl)) k0 bel lt0) trodAll_mk0, rfl, bel.frame _, fun h => by cases h⟩

set_option maxRecDepth 100000 in
theorem lifted (os : Os) (started : os.Started) (H : Type) (enc : TypeId × Value → H) (F : Stop.Interp) :
    ReturnsInHanded {} Try.checked os 3 .any ((Rows.OpenSpec.upto Rows.framesKeptSpec).pre6 enc Try.prog Try.f3 Rows.framesKeptUptoRow.domain false) (((Rows.OpenSpec.upto Rows.framesKeptSpec).at F).post enc Try.prog Try.f3 false true false false) := by
  refine returnsInHanded_of_cond (C := Try.checked) (s := (Rows.OpenSpec.upto Rows.framesKeptSpec)) (k := Rows.uptoSmall) rfl own started (by kernel_rfl) Try.func3
    (OpenSpec.witness (enc := enc) (C := Try.checked) (s := (Rows.OpenSpec.upto Rows.framesKeptSpec)) (k := Rows.uptoSmall) rfl false ⟨#[], #[.agg #[.int .i64 0, .slice none 0 0, .slice none 0 0]], []⟩ 8 (by kernel_rfl) (by kernel_rfl) (by kernel_rfl)
      (x := ([.agg [.lit (.int .i64 0), .nil, .nil]], [], [])) (by kernel_rfl) rfl (by kernel_rfl)) ?_
  intro W base args ds gs before hval hW _ hk _
  exact contract H enc W base args ds gs before hval hW hk
theorem over : Rows.framesKeptUptoRow.holds Try.pinned (Rows.OpenSpec.upto Rows.framesKeptSpec) :=
  OpenClaim.holds_of_cond 3 Try.f3 rfl rfl rfl rfl rfl rfl rfl ⟨rfl, rfl, rfl, rfl, rfl⟩ rfl rfl rfl rfl rfl (by kernel_rfl) Try.func3 (by kernel_rfl)
    (of_decide_eq_true (by kernel_rfl)) (by unfold Func.isWrapper; first | (rw [if_pos (by decide +kernel)]; kernel_rfl) | (rw [if_neg (by decide +kernel)]; exact ⟨rfl, rfl⟩))
    (fun os started H enc _ F => lifted os started H enc F)
/-- THE STATEMENT -/
theorem proved : Rows.FramesKeptUptoSaid :=
  over
end Go.Proofs.Ytgiinfjcpdfgiaa.framesKept
