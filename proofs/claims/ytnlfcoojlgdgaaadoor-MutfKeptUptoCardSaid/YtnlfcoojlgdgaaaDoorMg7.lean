/- What the row leans on, part 7: texts one behind the other. No condition. -/
import Derived.Test.YtnlfcoojlgdgaaaDoorMg6
import Derived.Shelf.Unicode.ValidAny
/- GX: utf8.ValidString by the shelf's contract: under the two tables, which stay as they are. -/


namespace GX
open Go
def extValid (args : List AV) (S : St) : Option (AV × St) :=
  match args with
  | [.str s] => bif Nat.blt s.length 9223372036854775808 then some (.bool (Lib.validD (s.map UInt8.ofNat)), S) else none
  | _ => none
theorem bytes_back (b : ByteArray) : (bytes b).map UInt8.ofNat = b.data.toList := by
  unfold bytes
  rw [List.map_map]
  conv => rhs; rw [← List.map_id b.data.toList]
  apply List.map_congr_left
  intro x _
  simp
theorem extValid_ok [Val] {P : Program} {f : FuncId} {fn : Func} (hf : P.funcs[f]? = some fn) (hname : (fn.name == "runtime.NumGoroutine") = false) (hb : fn.body.isNone = false) {Tabs : World → Prop}
    (calls : ∀ (s : ByteArray) (w : World), s.size ≤ 9223372036854775807 → Tabs w → Calls P f #[.string s] w fun e w' => e = .returned (.bool (Lib.validD s.data.toList)) ∧ Go.RowKit.Below w.heap.size w w')
    (tabs : ∀ w, (∀ g o, Val.ro g = some o → w.heap[g]? = some o) → Tabs w) : ExtOK P f extValid := by
  intro args S r S' h
  unfold extValid at h
  split at h
  · rename_i s
    rw [nblt, cond_dec] at h
    split at h
    · rename_i hlen
      simp only [Option.some.injEq, Prod.mk.injEq] at h
      obtain ⟨rfl, rfl⟩ := h
      refine ⟨Nat.le_refl _, ?_⟩
      intro φ w vs hv hw _
      simp only [vrels] at hv
      obtain ⟨v1, vs1, e1, h1, rfl⟩ := hv
      simp only [vrel] at h1
      obtain ⟨sb, rfl, rfl⟩ := h1
      have hvs : vs = #[.string sb] := by
        apply Array.ext'; simpa using e1
      subst hvs
      intro od a0 next Q hq
      have hrun : ∀ vs, (callFunc f vs).run P w = .ok (.enter f vs) w := by
        intro vs; simp only [callFunc, hf, hname, hb, Sem.run_bind, run_program, Result.andThen]; rfl
      rw [hrun]
      show Calls P f _ w _
      have hsz : sb.size ≤ 9223372036854775807 := by
        have : (bytes sb).length = sb.size := by unfold bytes; rw [List.length_map]; rfl
        omega
      refine (calls sb w hsz (tabs w fun g o ho => (hw.ro g o ho).1)).mono ?_
      rintro e w' ⟨rfl, hbw⟩
      obtain ⟨p1, p2⟩ := kept_below (n := S.n) hw hbw
      exact hq _ _ ⟨φ, by rw [bytes_back]; rfl, p1, p2⟩
    · cases h
  · cases h
end GX
