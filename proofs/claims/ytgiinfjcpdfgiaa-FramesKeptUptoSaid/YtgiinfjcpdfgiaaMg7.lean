/- What the row leans on, part 7: texts one behind the other. No condition. -/
import Derived.Test.YtgiinfjcpdfgiaaMg6
import Derived.Lib.Bytealg
/- GX: functions without a body that the machine does by itself: internal/bytealg.IndexByteString. -/


namespace GX
open Go
def ixb (c : Nat) : List Nat → Nat → Int
  | [], _ => -1
  | b :: l, i => bif Nat.beq b c then .ofNat i else ixb c l (i + 1)
def extByte (args : List AV) (S : St) : Option (AV × St) :=
  match args with
  | [.str s, .int .u8 (.ofNat c)] => bif Nat.blt c 256 then some (.int .i64 (ixb c s 0), S) else none
  | _ => none
theorem ixb_spec (c : UInt8) : ∀ (l : List UInt8) (i : Nat), ixb c.toNat (l.map (·.toNat)) i = if Lib.indexByte l c = -1 then -1 else Lib.indexByte l c + i
  | [], i => by simp [ixb, Lib.indexByte]
  | b :: l, i => by
    have h := ixb_spec c l (i + 1)
    have hge := Lib.indexByte_ge l c
    simp only [List.map_cons, ixb, Lib.indexByte]
    by_cases hb : b = c
    · subst hb
      simp
    · have h1 : Nat.beq b.toNat c.toNat = false := by
        cases hq : Nat.beq b.toNat c.toNat with
        | false => rfl
        | true => exact absurd (UInt8.toNat_inj.1 (Nat.eq_of_beq_eq_true hq)) hb
      have h2 : (b == c) = false := by simpa using hb
      simp only [h1, cond_false, h, h2, Bool.false_eq_true, if_false]
      by_cases hm : Lib.indexByte l c = -1
      · simp [hm]
      · have h3 : (Lib.indexByte l c == -1) = false := by simpa using hm
        simp only [hm, if_false, h3, Bool.false_eq_true]
        rw [if_neg (by omega)]
        omega
theorem extByte_ok [Val] {P : Program} {f : FuncId} {fn : Func} (hf : P.funcs[f]? = some fn) (hname : (fn.name == "runtime.NumGoroutine") = false) (hb : fn.body.isNone = true) (hn : Extern.findNext fn = none)
    (he : Extern.find fn = some Extern.BytealgIndexByte.indexByte) : ExtOK P f extByte := by
  intro args S r S' h
  unfold extByte at h
  split at h
  · rename_i s c
    cases hc : Nat.blt c 256 with
    | false => rw [hc] at h; cases h
    | true =>
      rw [hc] at h
      simp only [cond_true, Option.some.injEq, Prod.mk.injEq] at h
      obtain ⟨rfl, rfl⟩ := h
      refine ⟨Nat.le_refl _, ?_⟩
      intro φ w vs hv hw _
      simp only [vrels] at hv
      obtain ⟨v1, vs1, e1, ⟨b, rfl, hbs⟩, v2, vs2, rfl, rfl, rfl⟩ := hv
      have hvs : vs = #[.string b, .int .u8 (Int.ofNat c)] := by
        apply Array.ext'; simpa using e1
      subst hvs
      intro o a next Q hq
      rw [run_callFunc_extern hf hname hb hn he, Lib.run_indexByteString]
      simp only [Result.andThen]
      rw [Oper.upon_value]
      refine hq _ _ ⟨φ, ?_, hw, Ext.refl _ _ _ _⟩
      simp only [vrel]
      have hc' : c < 256 := by
        have := Nat.le_of_ble_eq_true hc; omega
      have hlen : (Int.ofNat c).toNat.toUInt8.toNat = c := by
        simp [Nat.toUInt8, Nat.mod_eq_of_lt hc']
      have := ixb_spec (Int.ofNat c).toNat.toUInt8 b.data.toList 0
      rw [hlen] at this
      have hb2 : s = b.data.toList.map (·.toNat) := by rw [← hbs]; rfl
      rw [hb2, this]
      have hge := Lib.indexByte_ge b.data.toList (Int.ofNat c).toNat.toUInt8
      congr 1
      split <;> omega
  · cases h
end GX
