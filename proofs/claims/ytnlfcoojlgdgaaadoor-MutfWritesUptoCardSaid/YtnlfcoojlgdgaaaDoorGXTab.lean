/- The machine GX over this seat's program, with its types' table in full. No condition. -/
import Derived.Test.YtnlfcoojlgdgaaaDoorGXSeat
import Derived.Test.YtnlfcoojlgdgaaaDoorGXRuns
namespace Go.Proofs.YtnlfcoojlgdgaaaDoor
open GX Go.Shelf
def TT : List (Option TI) := [
  none,
  none,
  some ⟨1, 8, .int .i64, [.int .i64 0]⟩,
  some ⟨1, 8, .int .i64, [.int .i64 0]⟩,
  some ⟨1, 1, .bool, [.bool false]⟩,
  some ⟨1, 1, .int .u8, [.int .u8 0]⟩,
  some ⟨1, 1, .int .u8, [.int .u8 0]⟩,
  some ⟨4, 24, .struct #[⟨"x", 2, 0, false, "", "runtime", 0⟩, ⟨"y", 3, 1, false, "", "runtime", 8⟩, ⟨"signed", 4, 2, false, "", "runtime", 16⟩, ⟨"code", 6, 3, false, "", "runtime", 17⟩], [.int .i64 0, .int .i64 0, .bool false, .int .u8 0]⟩,
  some ⟨4, 24, .struct #[⟨"x", 2, 0, false, "", "runtime", 0⟩, ⟨"y", 3, 1, false, "", "runtime", 8⟩, ⟨"signed", 4, 2, false, "", "runtime", 16⟩, ⟨"code", 6, 3, false, "", "runtime", 17⟩], [.int .i64 0, .int .i64 0, .bool false, .int .u8 0]⟩,
  some ⟨1, 16, .string, [.str []]⟩,
  some ⟨1, 16, .string, [.str []]⟩,
  some ⟨1, 16, .string, [.str []]⟩,
  some ⟨1, 8, .int .u64, [.int .u64 0]⟩,
  some ⟨2, 24, .struct #[⟨"msg", 9, 0, false, "", "runtime", 0⟩, ⟨"addr", 12, 1, false, "", "runtime", 16⟩], [.str [], .int .u64 0]⟩,
  some ⟨2, 24, .struct #[⟨"msg", 9, 0, false, "", "runtime", 0⟩, ⟨"addr", 12, 1, false, "", "runtime", 16⟩], [.str [], .int .u64 0]⟩,
  some ⟨1, 8, .pointer 98, [.nilp]⟩,
  some ⟨1, 8, .pointer 101, [.nilp]⟩,
  some ⟨1, 8, .pointer 109, [.nilp]⟩,
  some ⟨1, 8, .struct #[⟨"typ", 17, 0, false, "", "internal/runtime/maps", 0⟩], [.nilp]⟩,
  some ⟨1, 8, .struct #[⟨"typ", 17, 0, false, "", "internal/runtime/maps", 0⟩], [.nilp]⟩,
  none,
  some ⟨1, 4, .int .i32, [.int .i32 0]⟩,
  some ⟨1, 24, .slice 5, [.nils]⟩,
  some ⟨1, 8, .int .i64, [.int .i64 0]⟩,
  none,
  none,
  none,
  none,
  none,
  none,
  none,
  none,
  none,
  none,
  some ⟨1, 24, .slice 21, [.nils]⟩,
  none,
  some ⟨1, 24, .slice 40, [.nils]⟩,
  some ⟨1, 8, .pointer 79, [.nilp]⟩,
  none,
  some ⟨5, 64, .struct #[⟨"Kind", 3, 0, false, "", "", 0⟩, ⟨"Bytes", 3, 1, false, "", "", 8⟩, ⟨"N", 2, 2, false, "", "", 16⟩, ⟨"Text", 9, 3, false, "", "", 24⟩, ⟨"Raw", 22, 4, false, "", "", 40⟩], [.int .i64 0, .int .i64 0, .int .i64 0, .str [], .nils]⟩,
  some ⟨5, 64, .struct #[⟨"Kind", 3, 0, false, "", "", 0⟩, ⟨"Bytes", 3, 1, false, "", "", 8⟩, ⟨"N", 2, 2, false, "", "", 16⟩, ⟨"Text", 9, 3, false, "", "", 24⟩, ⟨"Raw", 22, 4, false, "", "", 40⟩], [.int .i64 0, .int .i64 0, .int .i64 0, .str [], .nils]⟩,
  none,
  none,
  none,
  none,
  none,
  none,
  none,
  some ⟨1, 24, .slice 22, [.nils]⟩,
  some ⟨4, 64, .struct #[⟨"lists", 48, 0, false, "", "carafe/carafebook", 0⟩, ⟨"was", 48, 1, false, "", "carafe/carafebook", 24⟩, ⟨"held", 3, 2, false, "", "carafe/carafebook", 48⟩, ⟨"bad", 4, 3, false, "", "carafe/carafebook", 56⟩], [.nils, .nils, .int .i64 0, .bool false]⟩,
  some ⟨4, 64, .struct #[⟨"lists", 48, 0, false, "", "carafe/carafebook", 0⟩, ⟨"was", 48, 1, false, "", "carafe/carafebook", 24⟩, ⟨"held", 3, 2, false, "", "carafe/carafebook", 48⟩, ⟨"bad", 4, 3, false, "", "carafe/carafebook", 56⟩], [.nils, .nils, .int .i64 0, .bool false]⟩,
  some ⟨1, 8, .pointer 84, [.nilp]⟩,
  none,
  none,
  none,
  none,
  none,
  some ⟨1, 8, .pointer 59, [.nilp]⟩,
  some ⟨5, 56, .struct #[⟨"B", 22, 0, false, "", "", 0⟩, ⟨"At", 3, 1, false, "", "", 24⟩, ⟨"Refused", 4, 2, false, "", "", 32⟩, ⟨"Why", 3, 3, false, "", "", 40⟩, ⟨"Where", 3, 4, false, "", "", 48⟩], [.nils, .int .i64 0, .bool false, .int .i64 0, .int .i64 0]⟩,
  some ⟨5, 56, .struct #[⟨"B", 22, 0, false, "", "", 0⟩, ⟨"At", 3, 1, false, "", "", 24⟩, ⟨"Refused", 4, 2, false, "", "", 32⟩, ⟨"Why", 3, 3, false, "", "", 40⟩, ⟨"Where", 3, 4, false, "", "", 48⟩], [.nils, .int .i64 0, .bool false, .int .i64 0, .int .i64 0]⟩,
  none,
  none,
  none,
  none,
  none,
  none,
  none,
  none,
  none,
  none,
  none,
  none,
  none,
  none,
  some ⟨1, 8, .int .u64, [.int .u64 0]⟩,
  none,
  none,
  none,
  some ⟨1, 24, .struct #[⟨"b", 22, 0, false, "", "carafe/mutf", 0⟩], [.nils]⟩,
  some ⟨1, 24, .struct #[⟨"b", 22, 0, false, "", "carafe/mutf", 0⟩], [.nils]⟩,
  none,
  some ⟨1, 8, .int .u64, [.int .u64 0]⟩,
  none,
  some ⟨4, 48, .struct #[⟨"b", 22, 0, false, "", "carafe/mutf", 0⟩, ⟨"at", 3, 1, false, "", "carafe/mutf", 24⟩, ⟨"why", 23, 2, false, "", "carafe/mutf", 32⟩, ⟨"no", 3, 3, false, "", "carafe/mutf", 40⟩], [.nils, .int .i64 0, .int .i64 0, .int .i64 0]⟩,
  some ⟨4, 48, .struct #[⟨"b", 22, 0, false, "", "carafe/mutf", 0⟩, ⟨"at", 3, 1, false, "", "carafe/mutf", 24⟩, ⟨"why", 23, 2, false, "", "carafe/mutf", 32⟩, ⟨"no", 3, 3, false, "", "carafe/mutf", 40⟩], [.nils, .int .i64 0, .int .i64 0, .int .i64 0]⟩,
  some ⟨1, 8, .pointer 50, [.nilp]⟩,
  none,
  none,
  none,
  none,
  none,
  some ⟨2, 2, .struct #[⟨"lo", 5, 0, false, "", "unicode/utf8", 0⟩, ⟨"hi", 5, 1, false, "", "unicode/utf8", 1⟩], [.int .u8 0, .int .u8 0]⟩,
  some ⟨2, 2, .struct #[⟨"lo", 5, 0, false, "", "unicode/utf8", 0⟩, ⟨"hi", 5, 1, false, "", "unicode/utf8", 1⟩], [.int .u8 0, .int .u8 0]⟩,
  some ⟨32, 32, .array 16 92, [.int .u8 0, .int .u8 0, .int .u8 0, .int .u8 0, .int .u8 0, .int .u8 0, .int .u8 0, .int .u8 0, .int .u8 0, .int .u8 0, .int .u8 0, .int .u8 0, .int .u8 0, .int .u8 0, .int .u8 0, .int .u8 0, .int .u8 0, .int .u8 0, .int .u8 0, .int .u8 0, .int .u8 0, .int .u8 0, .int .u8 0, .int .u8 0, .int .u8 0, .int .u8 0, .int .u8 0, .int .u8 0, .int .u8 0, .int .u8 0, .int .u8 0, .int .u8 0]⟩,
  none,
  none,
  some ⟨1, 4, .int .u32, [.int .u32 0]⟩,
  some ⟨4, 40, .struct #[⟨"_interface", 17, 0, false, "", "runtime", 0⟩, ⟨"concrete", 17, 1, false, "", "runtime", 8⟩, ⟨"asserted", 17, 2, false, "", "runtime", 16⟩, ⟨"missingMethod", 9, 3, false, "", "runtime", 24⟩], [.nilp, .nilp, .nilp, .str []]⟩,
  some ⟨4, 40, .struct #[⟨"_interface", 17, 0, false, "", "runtime", 0⟩, ⟨"concrete", 17, 1, false, "", "runtime", 8⟩, ⟨"asserted", 17, 2, false, "", "runtime", 16⟩, ⟨"missingMethod", 9, 3, false, "", "runtime", 24⟩], [.nilp, .nilp, .nilp, .str []]⟩,
  some ⟨0, 0, .array 0 16, []⟩,
  some ⟨0, 0, .struct #[⟨"_", 99, 0, false, "", "runtime", 0⟩], []⟩,
  some ⟨0, 0, .struct #[⟨"_", 99, 0, false, "", "runtime", 0⟩], []⟩,
  some ⟨1, 1, .int .u8, [.int .u8 0]⟩,
  some ⟨1, 1, .int .u8, [.int .u8 0]⟩,
  none,
  some ⟨1, 8, .pointer 5, [.nilp]⟩,
  some ⟨1, 4, .int .i32, [.int .i32 0]⟩,
  some ⟨1, 4, .int .i32, [.int .i32 0]⟩,
  some ⟨11, 48, .struct #[⟨"Size_", 12, 0, false, "", "", 0⟩, ⟨"PtrBytes", 12, 1, false, "", "", 8⟩, ⟨"Hash", 96, 2, false, "", "", 16⟩, ⟨"TFlag", 102, 3, false, "", "", 20⟩, ⟨"Align_", 5, 4, false, "", "", 21⟩, ⟨"FieldAlign_", 5, 5, false, "", "", 22⟩, ⟨"Kind_", 103, 6, false, "", "", 23⟩, ⟨"Equal", 104, 7, false, "", "", 24⟩, ⟨"GCData", 105, 8, false, "", "", 32⟩, ⟨"Str", 106, 9, false, "", "", 40⟩, ⟨"PtrToThis", 107, 10, false, "", "", 44⟩], [.int .u64 0, .int .u64 0, .int .u32 0, .int .u8 0, .int .u8 0, .int .u8 0, .int .u8 0, .nilf, .nilp, .int .i32 0, .int .i32 0]⟩,
  some ⟨11, 48, .struct #[⟨"Size_", 12, 0, false, "", "", 0⟩, ⟨"PtrBytes", 12, 1, false, "", "", 8⟩, ⟨"Hash", 96, 2, false, "", "", 16⟩, ⟨"TFlag", 102, 3, false, "", "", 20⟩, ⟨"Align_", 5, 4, false, "", "", 21⟩, ⟨"FieldAlign_", 5, 5, false, "", "", 22⟩, ⟨"Kind_", 103, 6, false, "", "", 23⟩, ⟨"Equal", 104, 7, false, "", "", 24⟩, ⟨"GCData", 105, 8, false, "", "", 32⟩, ⟨"Str", 106, 9, false, "", "", 40⟩, ⟨"PtrToThis", 107, 10, false, "", "", 44⟩], [.int .u64 0, .int .u64 0, .int .u32 0, .int .u8 0, .int .u8 0, .int .u8 0, .int .u8 0, .nilf, .nilp, .int .i32 0, .int .i32 0]⟩,
  none]
set_option maxRecDepth 1000000
theorem tt_eq : TT = (List.range 111).map (fun t => bif (TT.getD t none).isSome then mkTI Tryd.prog t else none) := by kernel_rfl
/-- a function without arguments that answers true -/
def extTrue (args : List AV) (S : St) : Option (AV × St) := match args with | [] => some (.bool true, S) | _ => none
theorem extTrue_ok [Val] {P : Program} {f : FuncId} {fn : Func} (hf : P.funcs[f]? = some fn) (hname : (fn.name == "runtime.NumGoroutine") = false) (hb : fn.body.isNone = false)
    (calls : ∀ (w : World), (∀ g o, Val.ro g = some o → w.heap[g]? = some o) → Calls P f #[] w fun e w' => e = .returned (.bool true) ∧ Go.RowKit.Below w.heap.size w w') : ExtOK P f extTrue := by
  intro args S r S' h
  unfold extTrue at h
  split at h
  · simp only [Option.some.injEq, Prod.mk.injEq] at h
    obtain ⟨rfl, rfl⟩ := h
    refine ⟨Nat.le_refl _, ?_⟩
    intro φ w vs hv hw _
    simp only [vrels] at hv
    have hvs : vs = #[] := by apply Array.ext'; simpa using hv
    subst hvs
    intro od a0 next Q hq
    have hrun : ∀ vs, (callFunc f vs).run P w = .ok (.enter f vs) w := by
      intro vs; simp only [callFunc, hf, hname, hb, Sem.run_bind, run_program, Result.andThen]; rfl
    rw [hrun]
    show Calls P f _ w _
    refine (calls w fun g o ho => (hw.ro g o ho).1).mono ?_
    rintro e w' ⟨rfl, hbw⟩
    obtain ⟨p1, p2⟩ := kept_below (n := S.n) hw hbw
    exact hq _ _ ⟨φ, rfl, p1, p2⟩
  · cases h
set_option maxRecDepth 1000000 in
theorem said15 : says 15 [] = true := by kernel_rfl
def ext1 (f : Nat) : Option (List AV → St → Option (AV × St)) := bif Nat.beq f 42 then some extValid else bif Nat.beq f 15 then some extTrue else none
noncomputable def X1 : X := { ti := fun t => TT.getD t none, fn := fun f => Tryd.prog.funcs[f]?, eqs := eqs0, ext := ext1 }
theorem xok1 [Val] : XOK Tryd.prog X1 where
  ti := fun t i h => by
    have h : TT.getD t none = some i := h
    have h2 := congrArg (fun l => l.getD t none) tt_eq
    rw [h, List.getD_eq_getElem?_getD, List.getElem?_map] at h2
    by_cases ht : t < 111
    · rw [List.getElem?_range ht] at h2
      simp only [Option.map_some, Option.getD_some] at h2
      rw [List.getD_eq_getElem?_getD] at h
      simp only [List.getD_eq_getElem?_getD, h, Option.isSome_some, cond_true] at h2
      exact mkTI_ok h2.symm
    · rw [List.getElem?_eq_none (by simpa using ht)] at h2
      simp at h2
  fn := fun f F h => h
  gor := fun F hF => by
    have := List.all_eq_true.1 gor F (by simpa using hF)
    simpa using this
  mixed := mixed
  eqs := fun t h => by
    have h1 : eqs0 t = true := h
    simpa [eqs0] using h1
theorem says_calls' (f : Nat) (hext : X0.ext f = none) (h : says f [] = true) (w : World) (hT : Lib.Utf8Tabs (Tryd.laysValid_ren.g 3) (Tryd.laysValid_ren.g 4) w) :
    Calls Tryd.prog f #[] w fun e w' => e = .returned (.bool true) ∧ Go.RowKit.Below w.heap.size w w' := says_calls f [] #[] hext h (fun _ => rfl) w hT
theorem ext1_ok [Val] (hT : ∀ w, (∀ g o, Val.ro g = some o → w.heap[g]? = some o) → Lib.Utf8Tabs (Tryd.laysValid_ren.g 3) (Tryd.laysValid_ren.g 4) w) : ∀ f g, X1.ext f = some g → ExtOK Tryd.prog f g := by
  intro f g h
  by_cases h42 : f = 42
  · subst h42; cases h; exact extValid_ok Tryd.func42 (by kernel_rfl) (by kernel_rfl) (fun s w hs hT => Any.utf8_ValidString Tryd.laysValid s w hs hT) hT
  by_cases h15 : f = 15
  · subst h15; cases h; exact extTrue_ok Tryd.func15 (by kernel_rfl) (by kernel_rfl) (fun w h => says_calls' 15 rfl said15 w (hT w h))
  have h' : ext1 f = some g := h
  simp [ext1, nbeq, h42, nbeq, h15] at h'
end Go.Proofs.YtnlfcoojlgdgaaaDoor
