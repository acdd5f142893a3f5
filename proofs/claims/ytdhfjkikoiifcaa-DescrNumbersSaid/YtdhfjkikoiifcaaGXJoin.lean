/- GX: strings.Join, by its contract. -/
import Derived.Test.YtdhfjkikoiifcaaGXTop
import Derived.Lib.Join
namespace GX
open Go
def jt (sep : List Nat) : List (List Nat) → List Nat
  | [] => []
  | y :: r => sep ++ (y ++ jt sep r)
def jn (sep : List Nat) : List (List Nat) → List Nat
  | [] => []
  | x :: r => x ++ jt sep r
def strsOf : List AV → Option (List (List Nat))
  | [] => some []
  | .str s :: l => match strsOf l with | some r => some (s :: r) | none => none
  | _ => none
def extJoin (args : List AV) (S : St) : Option (AV × St) :=
  match args with
  | [.slice b o n _, .str sep] => match row S.h b o n with
    | none => none
    | some cs => match strsOf cs with
      | none => none
      | some ss => bif Nat.ble (jn sep ss).length 140737488355328 && Nat.ble n 140737488355328 then some (.str (jn sep ss), S) else none
  | [.nils, .str _] => some (.str [], S)
  | [.emp, .str _] => some (.str [], S)
  | _ => none
theorem jn_spec (sep : List UInt8) : ∀ l : List (List UInt8), jn (sep.map (·.toNat)) (l.map fun x => x.map (·.toNat)) = (Lib.join l sep).map (·.toNat) := by
  have tail : ∀ l : List (List UInt8), jt (sep.map (·.toNat)) (l.map fun x => x.map (·.toNat)) = (Lib.joinTail sep l).map (·.toNat) := by
    intro l
    induction l with
    | nil => rfl
    | cons y r ih =>
      simp only [List.map_cons, jt, ih, Lib.joinTail, List.flatten_cons, List.map_append, List.append_assoc]
  intro l
  cases l with
  | nil => rfl
  | cons x r => rw [Lib.join_cons, List.map_append, List.map_cons, jn, tail]
theorem strsOf_ok {φ : Phi} : ∀ {cs : List AV} {us : List Value} {ss : List (List Nat)}, vrels φ cs us → strsOf cs = some ss → ∃ xs : List ByteArray, us = xs.map Value.string ∧ ss = xs.map bytes
  | [], us, ss, hv, h => by
    simp only [vrels] at hv
    simp only [strsOf, Option.some.injEq] at h
    subst hv; subst h; exact ⟨[], rfl, rfl⟩
  | a :: cs, us, ss, hv, h => by
    simp only [vrels] at hv
    obtain ⟨v, vs, rfl, h1, h2⟩ := hv
    unfold strsOf at h
    split at h
    · simp at *
    · rename_i s l heq
      cases heq
      split at h
      · rename_i r hr
        simp only [Option.some.injEq] at h; subst h
        obtain ⟨xs, rfl, rfl⟩ := strsOf_ok h2 hr
        simp only [vrel] at h1
        obtain ⟨b, rfl, rfl⟩ := h1
        exact ⟨b :: xs, rfl, rfl⟩
      · cases h
    · cases h
theorem kept_below {φ : Phi} {H : Tr AB} {w w' : World} {n : Nat} (hw : wrel φ H w) (hb : Go.RowKit.Below w.heap.size w w') : wrel φ H w' ∧ Ext φ H n w φ H n w' := by
  refine ⟨⟨fun id b hg => ?_, hw.inj, hw.small⟩, Nat.le_refl _, Sub.refl _, fun _ => .inl rfl, fun _ b e => .inl ⟨b, e⟩, hb.size, fun k hk _ => hb.block k hk, hb.os, hb.tape, hb.output⟩
  obtain ⟨l, o, h1, h2, h3⟩ := hw.blk id b hg
  refine ⟨l, o, h1, ?_, h3⟩
  rw [hb.block _ (wrel_lt hw hg h1)]; exact h2
theorem extJoin_ok {P : Program} {f : FuncId} {fn : Func} (hf : P.funcs[f]? = some fn) (hname : (fn.name == "runtime.NumGoroutine") = false) (hb : fn.body.isNone = false)
    (none_ : ∀ (a : Option Addr) (c : Nat) (sep : ByteArray) (w : World), Calls P f #[.slice a 0 c, .string sep] w fun e w' => e = .returned (.string ⟨#[]⟩) ∧ w' = w)
    (many : ∀ (bk o c : Nat) (xs : List ByteArray) (sep : ByteArray) (w : World), (∀ (j : Nat) x, xs[j]? = some x → w.cell? ⟨bk, o + j, none⟩ = some (.string x)) → bk < w.heap.size → xs.length ≤ 140737488355328 → xs.length ≤ c →
      (Lib.join (xs.map (·.data.toList)) sep.data.toList).length ≤ 140737488355328 →
      Calls P f #[.slice (some ⟨bk, o, none⟩) xs.length c, .string sep] w fun e w' => e = .returned (.string ⟨(Lib.join (xs.map (·.data.toList)) sep.data.toList).toArray⟩) ∧ Go.RowKit.Below w.heap.size w w') : ExtOK P f extJoin := by
  have nil : ∀ (φ : Phi) (w : World) (S : St) (a : Option Addr) (k : Nat) (sep : ByteArray), wrel φ S.h w → CallSpec P f #[.slice a 0 k, .string sep] w fun v w' => ∃ φ', vrel φ' (.str []) v ∧ wrel φ' S.h w' ∧ Ext φ S.h S.n w φ' S.h S.n w' := by
    intro φ w S a k sep hw o a0 next Q hq
    have hrun : ∀ vs, (callFunc f vs).run P w = .ok (.enter f vs) w := by
      intro vs; simp only [callFunc, hf, hname, hb, Sem.run_bind, run_program, Result.andThen]; rfl
    rw [hrun]
    show Calls P f _ w _
    refine (none_ a k sep w).mono ?_
    rintro e w' ⟨rfl, rfl⟩
    exact hq _ _ ⟨φ, ⟨_, rfl, rfl⟩, hw, Ext.refl _ _ _ _⟩
  intro args S r S' h
  unfold extJoin at h
  split at h
  · rename_i b o n cap sep
    split at h
    · cases h
    · rename_i cs hrow
      split at h
      · cases h
      · rename_i ss hss
        cases hg : (Nat.ble (jn sep ss).length 140737488355328 && Nat.ble n 140737488355328) with
        | false => rw [hg] at h; cases h
        | true =>
          rw [hg] at h
          simp only [cond_true, Option.some.injEq, Prod.mk.injEq] at h
          obtain ⟨rfl, rfl⟩ := h
          simp only [Bool.and_eq_true] at hg
          obtain ⟨g1, g2⟩ := hg
          have g1 := Nat.le_of_ble_eq_true g1
          have g2 := Nat.le_of_ble_eq_true g2
          refine ⟨Nat.le_refl _, ?_⟩
          intro φ w vs hv hw _
          simp only [vrels] at hv
          obtain ⟨v1, vs1, e1, h1, v2, vs2, rfl, h2, rfl⟩ := hv
          simp only [vrel] at h1 h2
          obtain ⟨l, c', hl, rfl, hc⟩ := h1
          obtain ⟨sb, rfl, rfl⟩ := h2
          have hvs : vs = #[.slice (some ⟨l.blk, l.base + o, none⟩) n c', .string sb] := by
            apply Array.ext'; simpa using e1
          subst hvs
          obtain ⟨us, k1, k2, k3⟩ := row_ok hw hrow hl
          obtain ⟨xs, rfl, rfl⟩ := strsOf_ok k2 hss
          simp only [List.length_map] at k1
          subst k1
          have hjn : jn (bytes sb) (xs.map bytes) = (Lib.join (xs.map (·.data.toList)) sb.data.toList).map (·.toNat) := by
            rw [← jn_spec, List.map_map]; rfl
          have hcc : xs.length ≤ c' := by
            cases cap with
            | ex k => simp only [capOk] at hc; omega
            | op z => exact hc.1
          have hblk : l.blk < w.heap.size := by
            unfold row at hrow
            split at hrow
            · rename_i hg; exact wrel_lt hw hg hl
            · cases hrow
          intro od a0 next Q hq
          have hrun : ∀ vs, (callFunc f vs).run P w = .ok (.enter f vs) w := by
            intro vs; simp only [callFunc, hf, hname, hb, Sem.run_bind, run_program, Result.andThen]; rfl
          rw [hrun]
          show Calls P f _ w _
          refine (many l.blk (l.base + o) c' xs sb w ?_ hblk g2 hcc ?_).mono ?_
          · intro j x hj
            exact k3 j (.string x) (by simp [hj])
          · rw [hjn] at g1; simpa using g1
          · rintro e w' ⟨rfl, hbw⟩
            obtain ⟨p1, p2⟩ := kept_below (n := S.n) hw hbw
            refine hq _ _ ⟨φ, ⟨_, rfl, ?_⟩, p1, p2⟩
            rw [hjn]; simp [bytes]
  · simp only [Option.some.injEq, Prod.mk.injEq] at h
    obtain ⟨rfl, rfl⟩ := h
    refine ⟨Nat.le_refl _, ?_⟩
    intro φ w vs hv hw _
    simp only [vrels] at hv
    obtain ⟨v1, vs1, e1, h1, v2, vs2, rfl, h2, rfl⟩ := hv
    simp only [vrel] at h1 h2
    subst h1
    obtain ⟨sb, rfl, _⟩ := h2
    have hvs : vs = #[.slice none 0 0, .string sb] := by
      apply Array.ext'; simpa using e1
    subst hvs
    exact nil φ w S _ _ _ hw
  · simp only [Option.some.injEq, Prod.mk.injEq] at h
    obtain ⟨rfl, rfl⟩ := h
    refine ⟨Nat.le_refl _, ?_⟩
    intro φ w vs hv hw _
    simp only [vrels] at hv
    obtain ⟨v1, vs1, e1, h1, v2, vs2, rfl, h2, rfl⟩ := hv
    simp only [vrel] at h1 h2
    obtain ⟨a, k, rfl⟩ := h1
    obtain ⟨sb, rfl, _⟩ := h2
    have hvs : vs = #[.slice (some a) 0 k, .string sb] := by
      apply Array.ext'; simpa using e1
    subst hvs
    exact nil φ w S _ _ _ hw
  · cases h
end GX
