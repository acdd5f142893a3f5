/- GX: reasoning about runs: a slice that may be grown: owned, or made empty. -/
import Derived.Test.YtnlfcoojlgdgaaaDoorGXW6
namespace GX
noncomputable section
open Go
/-- a slice that is owned, or an empty one that code has made -/
def Gz (S : St) (v : AV) (el sz : Nat) (cs : List AV) (m : Nat) : Prop :=
  Own S v el sz cs m ∨ (m = 0 ∧ cs = [] ∧ ∃ b o, v = .slice b o 0 (.ex 0) ∧ Rd S v sz [] 0)
theorem Gz.rd {S : St} {v : AV} {el sz m : Nat} {cs : List AV} (h : Gz S v el sz cs m) : Rd S v sz cs m := by
  rcases h with h | ⟨rfl, rfl, b, o, _, h⟩
  · exact h.rd
  · exact h
theorem Gz.keep {S S' : St} {v : AV} {el sz m : Nat} {cs : List AV} (h : Gz S v el sz cs m) (hk : ∀ b, blkOf v = some b → S'.h.get b = S.h.get b) : Gz S' v el sz cs m := by
  rcases h with h | ⟨rfl, rfl, b, o, hv, h⟩
  · exact .inl (h.keep hk)
  · exact .inr ⟨rfl, rfl, b, o, hv, h.keep hk⟩
theorem Gz.lt {S : St} {v : AV} {el sz m : Nat} {cs : List AV} (h : Gz S v el sz cs m) (hok : Sok S) {b : Nat} (hb : blkOf v = some b) : b < S.n := h.rd.lt hok hb
theorem Gz.own {S : St} {v : AV} {el sz m : Nat} {cs : List AV} (h : Gz S v el sz cs m) (hm : 0 < m) : Own S v el sz cs m := by
  rcases h with h | ⟨h, _⟩
  · exact h
  · omega
theorem Gz.eq {S : St} {v : AV} {el sz m m' : Nat} {cs cs' : List AV} (h : Gz S v el sz cs m) (hc : cs = cs') (hm : m = m') : Gz S v el sz cs' m' := by subst hc; subst hm; exact h
section
variable {X : X} {l : L} {S : St} {R : AV → St → Prop} {x y : Operand} {t t' : Nat}
theorem Ev_append_gz {xs : Array Operand} {ts : Array TypeId} {tr : List TypeId} {i i' ei : TI} {el m k : Nat} {vs vx : AV} {cs new : List AV} (hxs : xs.toList = [x, y]) (hts : ts.toList = t :: t' :: tr) (hi' : X.ti t' = some i') (hni : (match i'.desc with | .int _ => false | _ => true) = true)
    (hx : od l x = some vs) (hy : od l y = some vx) (hi : X.ti t = some i) (hd : i.desc = .slice el) (he' : X.ti el = some ei) (hz : (Nat.beq ei.size 0 || !(Nat.beq ei.zero.length ei.size)) = false)
    (hown : Gz S vs el ei.size cs m) (hnew : Rd S vx ei.size new k) (hone : new.all AV.one = true) (hok : Sok S) (hn : S.n < 1000000000) (hlim : (2 * (m + k) + 1000) * ei.bytes ≤ 140737488355328) (hlim2 : m + k ≤ 140737488355328)
    (hR : ∀ v' S', S.n ≤ S'.n → S'.n ≤ S.n + 1 → Sok S' → Gz S' v' el ei.size (cs ++ new) (m + k) → (∀ c, blkOf vs ≠ some c → c < S.n → S'.h.get c = S.h.get c) → (∀ c, blkOf v' = some c → blkOf vs = some c ∨ S.n ≤ c) → R v' S') :
    Ev X l S (.call { callee := .builtin .append, args := xs, argTypes := ts }) R := by
  rcases hown with h | ⟨rfl, rfl, b, o, rfl, h⟩
  · exact Ev_append hxs hts hi' hni hx hy hi hd he' hz h hnew hone hok hn hlim hlim2 (fun v' S' h1 h2 h3 h4 h5 h6 => hR v' S' h1 h2 h3 (.inl h4) h5 h6)
  · by_cases hk : k = 0
    · subst hk
      have hnil : new = [] := List.eq_nil_of_length_eq_zero (by rw [hnew.size]; omega)
      subst hnil
      have hrow : row S.h b o (0 * ei.size) = some [] := h.cells
      have hl := srcLen_of hnew.len
      have ha0 : aappend X S t (.slice b o 0 (.ex 0)) vx = (bif Nat.ble (0 + 0) 0 then
                (match storeAt S b (o + 0 * ei.size) [] with
                | none => none
                | some S => some (.slice b o (0 + 0) (.ex 0), S))
              else grow S el ei.size ei.bytes ([] ++ []) (0 + 0)) := by
        rw [app_eq hi hd he' hz hl hnew.cells]; unfold appBody; dsimp only; rw [hrow]; rfl
      unfold row at hrow
      split at hrow
      · rename_i ty cs sp hb
        rw [nble, cond_dec] at hrow
        split at hrow
        · rename_i hle
          have hbn : b < S.n := hok _ _ hb
          have hsame : ∀ c, (S.put b (.cells ty (lput cs (o + 0 * ei.size) []) sp)).h.get c = S.h.get c := by
            intro c
            rw [get_put (by omega), lput_nil]
            split
            · rename_i h; rw [h, hb]
            · rfl
          refine Ev_loud (S' := S.put b (.cells ty (lput cs (o + 0 * ei.size) []) sp)) (v := .slice b o 0 (.ex 0)) (fun e he => ⟨rfl, ?_⟩) (Nat.le_refl _) (hR _ _ (Nat.le_refl _) (Nat.le_succ _) ?_ (.inr ⟨rfl, rfl, b, o, rfl, ?_⟩) (fun c _ _ => hsame c) (fun c hc => .inl hc))
          · unfold loudOp; dsimp only; rw [hxs, hts]; dsimp only; rw [hi']; dsimp only
            split
            · rename_i hdd; rw [hdd] at hni; cases hni
            · rw [od_ok he hx, od_ok he hy]
              show aappend X S t (.slice b o 0 (.ex 0)) vx = _
              rw [ha0]
              unfold storeAt; rw [hb]; dsimp only
              rw [nble, nble, decide_eq_true (Nat.le_refl _), decide_eq_true (by simpa using hle)]; rfl
          · intro c x hc; rw [hsame] at hc; exact hok c x hc
          · exact h.keep (fun c _ => hsame c)
        · cases hrow
      · cases hrow
    · refine Ev_append_ex hxs hts hi' hni hx hy hi hd he' hz h hnew hok hn hlim hlim2 (fun v' S' h1 h2 h3 _ h5 h6 h7 => hR v' S' h1 h2 h3 ?_ (fun c _ hc => h6 c hc) (fun c hc => (h7 c hc).imp (fun h => by rw [h]; rfl) id))
      rcases h5 with h5 | h5
      · omega
      · exact .inl h5
/-- a slice, and nil -/
theorem Ev_eq_nils {t u : Nat} {i : TI} {el sz m : Nat} {v : AV} {cs : List AV} (hx : od l x = some v) (hy : od l y = some .nils) (hi : X.ti t = some i) (hd : i.desc = .slice el) (h : Rd S v sz cs m) (hR : ∀ b : Bool, (b = true → m = 0 ∧ cs = []) → R (.bool b) S) : Ev X l S (.binOp .eql t x y u) R := by
  have hsl := h.sl
  have hs := h.size
  have hlen := h.len
  have hae : ∃ b : Bool, aeq X 10 t v .nils = some b ∧ (b = true → v = .nils) := by
    unfold aeq; rw [hi]; dsimp only; rw [hd]
    cases v <;> first | exact ⟨_, rfl, fun h => by first | rfl | cases h⟩ | cases hsl
  obtain ⟨b, hb, hb2⟩ := hae
  refine Ev_bin hx hy (by cases v <;> first | rfl | cases hsl) ?_ (hR b (fun h => ?_))
  · unfold abin
    cases v <;> first | (dsimp only; rw [hb]; done) | cases hsl
  · have := hb2 h; subst this
    simp [slen] at hlen
    subst hlen
    exact ⟨rfl, List.eq_nil_of_length_eq_zero (by omega)⟩
/-- a pointer, and nil -/
theorem Ev_ptr_eql {t u b o el : Nat} {i : TI} (hx : od l x = some (.ptr b o)) (hy : od l y = some .nilp) (hi : X.ti t = some i) (hd : i.desc = .pointer el) (hR : R (.bool false) S) : Ev X l S (.binOp .eql t x y u) R := by
  refine Ev_pure (fun _ he => ⟨?_, ?_⟩) hR
  · unfold cls; dsimp only; rw [od_ok he hx]; dsimp only; rw [od_ok he hy]
  · unfold pureOp; dsimp only; rw [od_ok he hx]; dsimp only; rw [od_ok he hy]; dsimp only; unfold abin aeq; dsimp only; rw [hi]; dsimp only; rw [hd]
theorem Ev_ptr_neq {t u b o el : Nat} {i : TI} (hx : od l x = some (.ptr b o)) (hy : od l y = some .nilp) (hi : X.ti t = some i) (hd : i.desc = .pointer el) (hR : R (.bool true) S) : Ev X l S (.binOp .neq t x y u) R := by
  refine Ev_pure (fun _ he => ⟨?_, ?_⟩) hR
  · unfold cls; dsimp only; rw [od_ok he hx]; dsimp only; rw [od_ok he hy]
  · unfold pureOp; dsimp only; rw [od_ok he hx]; dsimp only; rw [od_ok he hy]; dsimp only; unfold abin aeq; dsimp only; rw [hi]; dsimp only; rw [hd]; rfl
end
end
end GX
