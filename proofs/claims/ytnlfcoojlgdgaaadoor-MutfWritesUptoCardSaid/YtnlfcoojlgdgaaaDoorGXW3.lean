/- GX: reasoning about runs: append, texts out of bytes and runes, a text's runes one by one. -/
import Derived.Test.YtnlfcoojlgdgaaaDoorGXW2
namespace GX
noncomputable section
open Go
def blkOf : AV → Option Nat
  | .slice b _ _ _ => some b
  | .ptr b _ => some b
  | .map b => some b
  | _ => none
/-- a slice whose block is its own, and that is as long as its block -/
def Own (S : St) (v : AV) (el sz : Nat) (cs : List AV) (m : Nat) : Prop :=
  (v = .nils ∧ cs = [] ∧ m = 0) ∨ ∃ b, v = .slice b 0 m (.op sz) ∧ S.h.get b = some (.cells el cs true) ∧ cs.length = m * sz
def isSl : AV → Bool
  | .slice _ _ _ _ => true
  | .rsl _ _ _ => true
  | .nils => true
  | .emp => true
  | _ => false
def capW : AV → Nat → Bool
  | .slice _ _ n (.ex k), _ => Nat.ble n k
  | .slice _ _ _ (.op z), sz => Nat.beq z sz
  | .rsl cs n z, sz => Nat.beq z sz && Nat.beq cs.length (n * z)
  | _, _ => true
/-- a slice that may be read -/
structure Rd (S : St) (v : AV) (sz : Nat) (cs : List AV) (m : Nat) : Prop where
  cap : capW v sz = true
  self : veq v v = true
  sl : isSl v = true
  len : slen v = some m
  cells : srcCells S.h sz m v = some cs
  size : cs.length = m * sz
theorem veq_slice (b o n : Nat) (k : Cap) : veq (.slice b o n k) (.slice b o n k) = true := by cases k <;> simp [veq]
theorem veqs_take : ∀ {l : List AV} (n : Nat), veqs l l = true → veqs (l.take n) (l.take n) = true
  | [], n, _ => by simp [veqs]
  | a :: l, 0, _ => by simp [veqs]
  | a :: l, n + 1, h => by
    simp only [veqs, Bool.and_eq_true, List.take_succ_cons] at h ⊢
    exact ⟨h.1, veqs_take n h.2⟩
theorem veqs_drop : ∀ {l : List AV} (n : Nat), veqs l l = true → veqs (l.drop n) (l.drop n) = true
  | [], n, _ => by simp [veqs]
  | a :: l, 0, h => h
  | a :: l, n + 1, h => by
    simp only [veqs, Bool.and_eq_true, List.drop_succ_cons] at h ⊢
    exact veqs_drop n h.2
theorem srcLen_of {v : AV} {m : Nat} (h : slen v = some m) : srcLen v = some m := by
  cases v <;> first | exact h | cases h
theorem row_congr {H H' : Tr AB} {b o n : Nat} (h : H'.get b = H.get b) : row H' b o n = row H b o n := by unfold row; rw [h]
theorem row_len {H : Tr AB} {b o n : Nat} {cs : List AV} (h : row H b o n = some cs) : cs.length = n := by
  unfold row at h
  split at h
  · rename_i t ds sp _
    rw [nble, cond_dec] at h
    split at h
    · cases h; simp; omega
    · cases h
  · cases h
theorem Rd.keep {S S' : St} {v : AV} {sz : Nat} {cs : List AV} {m : Nat} (h : Rd S v sz cs m) (hk : ∀ b, blkOf v = some b → S'.h.get b = S.h.get b) : Rd S' v sz cs m := by
  refine ⟨h.cap, h.self, h.sl, h.len, ?_, h.size⟩
  have h2 := h.cells
  cases v with
  | slice b o n k => unfold srcCells at h2 ⊢; dsimp only at h2 ⊢; rw [row_congr (hk b rfl)]; exact h2
  | nils => exact h2
  | emp => exact h2
  | rsl _ _ _ => exact h2
  | _ => have := h.sl; cases this
theorem Own.keep {S S' : St} {v : AV} {el sz : Nat} {cs : List AV} {m : Nat} (h : Own S v el sz cs m) (hk : ∀ b, blkOf v = some b → S'.h.get b = S.h.get b) : Own S' v el sz cs m := by
  rcases h with h | ⟨b, h1, h2, h3⟩
  · exact .inl h
  · exact .inr ⟨b, h1, by rw [hk b (by rw [h1]; rfl)]; exact h2, h3⟩
theorem Own.rd {S : St} {v : AV} {el sz : Nat} {cs : List AV} {m : Nat} (h : Own S v el sz cs m) : Rd S v sz cs m := by
  rcases h with ⟨h1, h2, h3⟩ | ⟨b, h1, h2, h3⟩
  · subst h1; subst h2; subst h3; exact ⟨rfl, rfl, rfl, rfl, rfl, by simp⟩
  · subst h1
    refine ⟨by simp [capW], veq_slice _ _ _ _, rfl, rfl, ?_, h3⟩
    unfold srcCells row; dsimp only; rw [h2]; dsimp only
    rw [nble, decide_eq_true (by omega)]
    simp only [cond_true, List.drop_zero]; rw [List.take_of_length_le (by omega)]
theorem Own.lt {S : St} {v : AV} {el sz : Nat} {cs : List AV} {m : Nat} (h : Own S v el sz cs m) (hok : Sok S) {b : Nat} (hb : blkOf v = some b) : b < S.n := by
  rcases h with ⟨h1, _, _⟩ | ⟨b', h1, h2, _⟩
  · subst h1; cases hb
  · subst h1; cases hb; exact hok _ _ h2
theorem Rd.lt {S : St} {v : AV} {sz : Nat} {cs : List AV} {m : Nat} (h : Rd S v sz cs m) (hok : Sok S) {b : Nat} (hb : blkOf v = some b) : b < S.n := by
  have h2 := h.cells
  cases v with
  | slice b' o n k =>
    cases hb
    unfold srcCells row at h2; dsimp only at h2
    split at h2
    · rename_i h3; exact hok _ _ h3
    · cases h2
  | nils => cases hb
  | emp => cases hb
  | rsl _ _ _ => cases hb
  | _ => have := h.sl; cases this
section
variable {X : X} {l : L} {S : St} {R : AV → St → Prop} {t t' u : Nat} {x y : Operand}
def appBody (S : St) (el size bytes k : Nat) (new : List AV) (vs : AV) : Option (AV × St) :=
  match vs with
            | .nils => bif Nat.beq k 0 then some (.nils, S) else grow S el size bytes new k
            | .emp => bif Nat.beq k 0 then some (.emp, S) else none
            | .slice b o len (.ex q) =>
              bif Nat.ble (len + k) q then
                match storeAt S b (o + len * size) new with
                | none => none
                | some S => some (.slice b o (len + k) (.ex q), S)
              else match row S.h b o (len * size) with
                | none => none
                | some old => grow S el size bytes (old ++ new) (len + k)
            | .slice b o len (.op z) =>
              bif Nat.beq k 0 then some (.slice b o len (.op z), S) else bif !(Nat.beq z size) then none else
              match S.h.get b with
              | some (.cells t' cs sp) =>
                bif Nat.ble (o + (len + k) * size) cs.length then
                  match storeAt S b (o + len * size) new with
                  | none => none
                  | some S => some (.slice b o (len + k) (.op z), S)
                else bif Nat.blt S.n 1000000000 && sp && Nat.beq t' el && Nat.beq (o + len * size) cs.length && Nat.ble ((2 * (len + k) + 1000) * bytes) 140737488355328 && Nat.ble (len + k) 140737488355328 && new.all AV.one then
                  some (.slice S.n 0 (len + k) (.op z), { h := Tr.set 40 (S.h.del b) S.n (.cells el (cs.drop o ++ new) true), n := S.n + 1 })
                else none
              | _ => none
            | _ => none
theorem app_eq {i ei : TI} {el k : Nat} {vs vx : AV} {new : List AV} (hi : X.ti t = some i) (hd : i.desc = .slice el) (he' : X.ti el = some ei) (hz : (Nat.beq ei.size 0 || !(Nat.beq ei.zero.length ei.size)) = false) (hl : srcLen vx = some k) (hc : srcCells S.h ei.size k vx = some new) :
    aappend X S t vs vx = appBody S el ei.size ei.bytes k new vs := by
  unfold aappend appBody
  rw [hi]; dsimp only; rw [hd]; dsimp only; rw [he']; dsimp only; rw [hz]; simp only [cond_false]; rw [hl]; dsimp only; rw [hc]
  cases vs with
  | slice b o n q => cases q <;> rfl
  | _ => rfl
theorem Ev_append {xs : Array Operand} {ts : Array TypeId} {tr : List TypeId} {i i' ei : TI} {el m k : Nat} {vs vx : AV} {cs new : List AV} (hxs : xs.toList = [x, y]) (hts : ts.toList = t :: t' :: tr) (hi' : X.ti t' = some i') (hni : (match i'.desc with | .int _ => false | _ => true) = true)
    (hx : od l x = some vs) (hy : od l y = some vx) (hi : X.ti t = some i) (hd : i.desc = .slice el) (he' : X.ti el = some ei) (hz : (Nat.beq ei.size 0 || !(Nat.beq ei.zero.length ei.size)) = false)
    (hown : Own S vs el ei.size cs m) (hnew : Rd S vx ei.size new k) (hone : new.all AV.one = true) (hok : Sok S) (hn : S.n < 1000000000) (hlim : (2 * (m + k) + 1000) * ei.bytes ≤ 140737488355328) (hlim2 : m + k ≤ 140737488355328)
    (hR : ∀ v' S', S.n ≤ S'.n → S'.n ≤ S.n + 1 → Sok S' → Own S' v' el ei.size (cs ++ new) (m + k) → (∀ c, blkOf vs ≠ some c → c < S.n → S'.h.get c = S.h.get c) → (∀ c, blkOf v' = some c → blkOf vs = some c ∨ S.n ≤ c) → R v' S') :
    Ev X l S (.call { callee := .builtin .append, args := xs, argTypes := ts }) R := by
  have key : ∀ v' S', aappend X S t vs vx = some (v', S') → S.n ≤ S'.n → R v' S' → Ev X l S (.call { callee := .builtin .append, args := xs, argTypes := ts }) R := by
    intro v' S' ha hle hr
    refine Ev_loud (fun e he => ⟨rfl, ?_⟩) hle hr
    unfold loudOp; dsimp only; rw [hxs, hts]; dsimp only; rw [hi']; dsimp only
    split
    · rename_i hdd; rw [hdd] at hni; cases hni
    · rw [od_ok he hx, od_ok he hy]; exact ha
  have hz0 : ei.size ≠ 0 := by intro h; rw [h] at hz; simp [nbeq] at hz
  have hl := srcLen_of hnew.len
  have ha0 : aappend X S t vs vx = appBody S el ei.size ei.bytes k new vs := app_eq hi hd he' hz hl hnew.cells
  by_cases hk : k = 0
  · subst hk
    have hnil : new = [] := List.eq_nil_of_length_eq_zero (by rw [hnew.size]; omega)
    subst hnil
    rcases hown with ⟨h1, h2, h3⟩ | ⟨b, h1, h2, h3⟩
    · subst h1; subst h2; subst h3
      exact key .nils S (by rw [ha0]; rfl) (Nat.le_refl _) (hR _ _ (Nat.le_refl _) (Nat.le_succ _) hok (.inl ⟨rfl, rfl, rfl⟩) (fun _ _ _ => rfl) (fun c hc => by cases hc))
    · subst h1
      exact key _ S (by rw [ha0]; rfl) (Nat.le_refl _) (hR _ _ (Nat.le_refl _) (Nat.le_succ _) hok (.inr ⟨b, rfl, by simpa using h2, by simpa using h3⟩) (fun _ _ _ => rfl) (fun c hc => .inl hc))
  · have hkb : Nat.beq k 0 = false := by rw [nbeq]; simp [hk]
    rcases hown with ⟨h1, h2, h3⟩ | ⟨b, h1, h2, h3⟩
    · subst h1; subst h2; subst h3
      rw [Nat.zero_add] at hlim hlim2
      refine key (.slice S.n 0 k (.op ei.size)) (S.new (.cells el new true)) ?_ (Nat.le_succ _) (hR _ _ (Nat.le_succ _) (Nat.le_refl _) ?_ (.inr ⟨S.n, by rw [Nat.zero_add], ?_, ?_⟩) ?_ (fun c hc => by cases hc; exact .inr (Nat.le_refl _)))
      · rw [ha0]; unfold appBody; dsimp only; rw [hkb]; simp only [cond_false]; unfold grow
        rw [nblt, nble, nble, decide_eq_true hn, decide_eq_true hlim, decide_eq_true hlim2]; rfl
      · intro c x hc
        rw [get_new hn] at hc
        by_cases h : c = S.n
        · rw [h]; exact Nat.lt_succ_self _
        · rw [if_neg h] at hc; exact Nat.lt_succ_of_lt (hok c x hc)
      · rw [get_new hn, if_pos rfl]; rfl
      · simpa using hnew.size
      · intro c _ hc; rw [get_new hn, if_neg (by omega)]
    · subst h1
      have hbn : b < S.n := hok _ _ h2
      have hns : ¬ (0 + (m + k) * ei.size ≤ cs.length) := by
        rw [h3, Nat.zero_add, Nat.add_mul]
        have : 0 < k * ei.size := Nat.mul_pos (by omega) (by omega)
        omega
      refine key (.slice S.n 0 (m + k) (.op ei.size)) { h := Tr.set 40 (S.h.del b) S.n (.cells el (cs.drop 0 ++ new) true), n := S.n + 1 } ?_ (Nat.le_succ _) (hR _ _ (Nat.le_succ _) (Nat.le_refl _) ?_ (.inr ⟨S.n, rfl, ?_, ?_⟩) ?_ (fun c hc => by cases hc; exact .inr (Nat.le_refl _)))
      · rw [ha0]; unfold appBody; dsimp only; rw [hkb]; simp only [cond_false]
        rw [nbeq, decide_eq_true rfl]; simp only [Bool.not_true, cond_false]
        rw [h2]; dsimp only
        rw [nble, decide_eq_false hns]; simp only [cond_false]
        rw [nblt, nble, nble, nbeq, nbeq, decide_eq_true hn, decide_eq_true hlim, decide_eq_true hlim2, decide_eq_true rfl, decide_eq_true (by omega : 0 + m * ei.size = cs.length), hone]; rfl
      · intro c x hc
        dsimp only at hc
        rw [Tr.get_set 40 _ _ _ _ (by omega)] at hc
        by_cases h : c = S.n
        · rw [h]; exact Nat.lt_succ_self _
        · rw [if_neg h, Tr.get_del] at hc
          split at hc
          · cases hc
          · exact Nat.lt_succ_of_lt (hok c x hc)
      · dsimp only; rw [Tr.get_set 40 _ _ _ _ (by omega), if_pos rfl]; rfl
      · rw [List.length_append, h3, hnew.size, Nat.add_mul]
      · intro c hcb hc
        dsimp only
        rw [Tr.get_set 40 _ _ _ _ (by omega), if_neg (by omega), Tr.get_del, if_neg (fun h => hcb (by rw [h]; rfl))]
/-- what is appended to a slice that is full -/
theorem Ev_append_ex {xs : Array Operand} {ts : Array TypeId} {tr : List TypeId} {i i' ei : TI} {el m k b o : Nat} {vx : AV} {old new : List AV} (hxs : xs.toList = [x, y]) (hts : ts.toList = t :: t' :: tr) (hi' : X.ti t' = some i') (hni : (match i'.desc with | .int _ => false | _ => true) = true)
    (hx : od l x = some (.slice b o m (.ex m))) (hy : od l y = some vx) (hi : X.ti t = some i) (hd : i.desc = .slice el) (he' : X.ti el = some ei) (hz : (Nat.beq ei.size 0 || !(Nat.beq ei.zero.length ei.size)) = false)
    (hold : Rd S (.slice b o m (.ex m)) ei.size old m) (hnew : Rd S vx ei.size new k) (hok : Sok S) (hn : S.n < 1000000000) (hlim : (2 * (m + k) + 1000) * ei.bytes ≤ 140737488355328) (hlim2 : m + k ≤ 140737488355328)
    (hR : ∀ v' S', S.n ≤ S'.n → S'.n ≤ S.n + 1 → Sok S' → Rd S' v' ei.size (old ++ new) (m + k) → (k = 0 ∨ Own S' v' el ei.size (old ++ new) (m + k)) → (∀ c, c < S.n → S'.h.get c = S.h.get c) → (∀ c, blkOf v' = some c → c = b ∨ S.n ≤ c) → R v' S') :
    Ev X l S (.call { callee := .builtin .append, args := xs, argTypes := ts }) R := by
  have key : ∀ v' S', aappend X S t (.slice b o m (.ex m)) vx = some (v', S') → S.n ≤ S'.n → R v' S' → Ev X l S (.call { callee := .builtin .append, args := xs, argTypes := ts }) R := by
    intro v' S' ha hle hr
    refine Ev_loud (fun e he => ⟨rfl, ?_⟩) hle hr
    unfold loudOp; dsimp only; rw [hxs, hts]; dsimp only; rw [hi']; dsimp only
    split
    · rename_i hdd; rw [hdd] at hni; cases hni
    · rw [od_ok he hx, od_ok he hy]; exact ha
  have hl := srcLen_of hnew.len
  have hrow : row S.h b o (m * ei.size) = some old := hold.cells
  have ha0 : aappend X S t (.slice b o m (.ex m)) vx = (bif Nat.ble (m + k) m then
                (match storeAt S b (o + m * ei.size) new with
                | none => none
                | some S => some (.slice b o (m + k) (.ex m), S))
              else grow S el ei.size ei.bytes (old ++ new) (m + k)) := by
    rw [app_eq hi hd he' hz hl hnew.cells]; unfold appBody; dsimp only; rw [hrow]
  by_cases hk : k = 0
  · subst hk
    have hnil : new = [] := List.eq_nil_of_length_eq_zero (by rw [hnew.size]; omega)
    subst hnil
    unfold row at hrow
    split at hrow
    · rename_i ty cs sp hb
      rw [nble, cond_dec] at hrow
      split at hrow
      · rename_i hle
        have hbn : b < S.n := hok _ _ hb
        have hsame : ∀ c, (S.put b (.cells ty (lput cs (o + m * ei.size) []) sp)).h.get c = S.h.get c := by
          intro c
          rw [get_put (by omega), lput_nil]
          split
          · rename_i h; rw [h, hb]
          · rfl
        refine key (.slice b o (m + 0) (.ex m)) (S.put b (.cells ty (lput cs (o + m * ei.size) []) sp)) ?_ (Nat.le_refl _) (hR _ _ (Nat.le_refl _) (Nat.le_succ _) ?_ ?_ (.inl rfl) (fun c _ => hsame c) (fun c hc => by cases hc; exact .inl rfl))
        · rw [ha0, nble, decide_eq_true (by omega)]; simp only [cond_true]
          unfold storeAt; rw [hb]; dsimp only
          rw [nble, decide_eq_true (by simpa using hle)]; rfl
        · intro c x hc; rw [hsame] at hc; exact hok c x hc
        · rw [List.append_nil]
          refine ⟨by simp [capW], veq_slice _ _ _ _, rfl, rfl, ?_, by simpa using hold.size⟩
          show row _ b o ((m + 0) * ei.size) = _
          rw [row_congr (hsame b)]; exact hold.cells
      · cases hrow
    · cases hrow
  · refine key (.slice S.n 0 (m + k) (.op ei.size)) (S.new (.cells el (old ++ new) true)) ?_ (Nat.le_succ _) ?_
    · rw [ha0, nble, decide_eq_false (by omega)]; simp only [cond_false]; unfold grow
      rw [nblt, nble, nble, decide_eq_true hn, decide_eq_true hlim, decide_eq_true hlim2]; rfl
    · have hown : Own (S.new (.cells el (old ++ new) true)) (.slice S.n 0 (m + k) (.op ei.size)) el ei.size (old ++ new) (m + k) := by
        refine .inr ⟨S.n, rfl, ?_, ?_⟩
        · rw [get_new hn, if_pos rfl]
        · rw [List.length_append, hold.size, hnew.size, Nat.add_mul]
      refine hR _ _ (Nat.le_succ _) (Nat.le_refl _) ?_ hown.rd (.inr hown) ?_ (fun c hc => by cases hc; exact .inr (Nat.le_refl _))
      · intro c x hc
        rw [get_new hn] at hc
        by_cases h : c = S.n
        · rw [h]; exact Nat.lt_succ_self _
        · rw [if_neg h] at hc; exact Nat.lt_succ_of_lt (hok c x hc)
      · intro c hc; rw [get_new hn, if_neg (by omega)]
/-- a part of a slice -/
theorem slice_rd {i ei : TI} {el m lo hi : Nat} {v : AV} {cs : List AV} {lo' hi' : Option AV} (hi0 : X.ti t = some i) (hd : i.desc = .slice el) (he' : X.ti el = some ei) (hrd : Rd S v ei.size cs m) (hlo : lo ≤ hi) (hhi : hi ≤ m)
    (hl : (lo' = none ∧ lo = 0) ∨ ∃ k, lo' = some (.int k ((lo : Nat) : Int))) (hh : (hi' = none ∧ hi = m) ∨ ∃ k, hi' = some (.int k ((hi : Nat) : Int))) :
    ∃ v', aslice X t v lo' hi' none = some v' ∧ Rd S v' ei.size ((cs.take (hi * ei.size)).drop (lo * ei.size)) (hi - lo) ∧ ∀ b, blkOf v' = some b → blkOf v = some b := by
  have hb : ∀ lim, m ≤ lim → bounds m lim lo' hi' = some (lo, hi) := by
    intro lim hm
    unfold bounds
    rcases hh with ⟨h1, h2⟩ | ⟨k, h1⟩
    · subst h1; subst h2
      rcases hl with ⟨h3, h4⟩ | ⟨k, h3⟩
      · subst h3; subst h4; rfl
      · subst h3
        have : bound (.int k ((lo : Nat) : Int)) hi = some lo := by
          show (bif Nat.ble lo hi then some lo else none) = _
          rw [nble, decide_eq_true hlo]; rfl
        dsimp only; rw [this]
    · subst h1
      have : bound (.int k ((hi : Nat) : Int)) lim = some hi := by
        show (bif Nat.ble hi lim then some hi else none) = _
        rw [nble, decide_eq_true (by omega)]; rfl
      dsimp only; rw [this]
      rcases hl with ⟨h3, h4⟩ | ⟨k, h3⟩
      · subst h3; subst h4; rfl
      · subst h3
        have : bound (.int k ((lo : Nat) : Int)) hi = some lo := by
          show (bif Nat.ble lo hi then some lo else none) = _
          rw [nble, decide_eq_true hlo]; rfl
        dsimp only; rw [this]
  have hs := hrd.size
  have hmz : hi * ei.size ≤ m * ei.size := Nat.mul_le_mul_right _ hhi
  have hlz : lo * ei.size ≤ hi * ei.size := Nat.mul_le_mul_right _ hlo
  have hlen : ((cs.take (hi * ei.size)).drop (lo * ei.size)).length = (hi - lo) * ei.size := by
    rw [List.length_drop, List.length_take, hs, Nat.sub_mul]; omega
  have hle := hrd.len
  cases v with
  | slice b o n cap =>
    cases hle
    have hrow : row S.h b o (m * ei.size) = some cs := hrd.cells
    unfold row at hrow
    split at hrow
    · rename_i ty cs0 sp hb0
      rw [nble, cond_dec] at hrow
      split at hrow
      · rename_i hfit
        cases hrow
        have hrow2 : ∀ o', (o' = o + lo * ei.size ∨ lo = hi ∧ o' = o) → row S.h b o' ((hi - lo) * ei.size) = some (((((cs0.drop o).take (m * ei.size))).take (hi * ei.size)).drop (lo * ei.size)) := by
          intro o' ho
          unfold row; rw [hb0]; dsimp only
          have hsm : (hi - lo) * ei.size = hi * ei.size - lo * ei.size := Nat.sub_mul _ _ _
          rcases ho with rfl | ⟨rfl, rfl⟩
          · rw [nble, decide_eq_true (by rw [hsm]; omega)]
            simp only [cond_true]
            rw [hsm, List.take_take, Nat.min_eq_left hmz, List.drop_take, List.drop_drop]
          · rw [nble, decide_eq_true (by rw [hsm]; omega)]
            simp only [cond_true]
            rw [Nat.sub_self, Nat.zero_mul, List.take_zero]
            have hnil := List.eq_nil_of_length_eq_zero (by rw [hlen, Nat.sub_self, Nat.zero_mul])
            rw [hnil]
        cases cap with
        | ex k =>
          have hk : m ≤ k := by have := hrd.cap; simpa [capW] using this
          refine ⟨.slice b (bif Nat.beq k lo then o else o + lo * ei.size) (hi - lo) (.ex (k - lo)), ?_, ⟨by simp [capW]; omega, veq_slice _ _ _ _, rfl, rfl, ?_, hlen⟩, fun b h => h⟩
          · unfold aslice; dsimp only; rw [hi0]; dsimp only; rw [hd]; dsimp only; rw [he']; dsimp only; rw [hb k hk]
          · unfold srcCells; dsimp only
            apply hrow2
            rw [nbeq, cond_dec]
            by_cases h : k = lo
            · rw [if_pos h]; exact .inr ⟨by omega, rfl⟩
            · rw [if_neg h]; exact .inl rfl
        | op z =>
          have hz : z = ei.size := by have := hrd.cap; simpa [capW] using this
          by_cases hlt : lo < m
          · refine ⟨.slice b (o + lo * ei.size) (hi - lo) (.op z), ?_, ⟨by simp [capW, hz], veq_slice _ _ _ _, rfl, rfl, ?_, hlen⟩, fun b h => h⟩
            · unfold aslice; dsimp only; rw [hi0]; dsimp only; rw [hd]; dsimp only; rw [he']; dsimp only; rw [hb m (Nat.le_refl _)]; dsimp only
              rw [nblt, nbeq, decide_eq_true hlt, decide_eq_true hz]; rfl
            · unfold srcCells; dsimp only
              exact hrow2 _ (.inl rfl)
          · refine ⟨.emp, ?_, ⟨rfl, rfl, rfl, ?_, ?_, hlen⟩, fun b h => by cases h⟩
            · unfold aslice; dsimp only; rw [hi0]; dsimp only; rw [hd]; dsimp only; rw [he']; dsimp only; rw [hb m (Nat.le_refl _)]; dsimp only
              rw [nblt, nbeq, nbeq, decide_eq_false hlt, decide_eq_true (by omega : hi = lo)]; rfl
            · unfold slen; rw [show hi - lo = 0 by omega]
            · unfold srcCells; dsimp only; rw [show hi - lo = 0 by omega]
              have hnil := List.eq_nil_of_length_eq_zero (by rw [hlen, show hi - lo = 0 by omega, Nat.zero_mul])
              rw [hnil]; rfl
      · cases hrow
    · cases hrow
  | nils =>
    cases hle
    have h0 : hi = 0 := by omega
    have h1 : lo = 0 := by omega
    subst h0; subst h1
    refine ⟨.nils, ?_, ⟨rfl, rfl, rfl, rfl, ?_, hlen⟩, fun b h => h⟩
    · unfold aslice; dsimp only; rw [hb 0 (Nat.le_refl _)]
    · simp [srcCells]
  | emp =>
    cases hle
    have h0 : hi = 0 := by omega
    have h1 : lo = 0 := by omega
    subst h0; subst h1
    refine ⟨.emp, ?_, ⟨rfl, rfl, rfl, rfl, ?_, hlen⟩, fun b h => h⟩
    · unfold aslice; dsimp only; rw [hb 0 (Nat.le_refl _)]
    · simp [srcCells]
  | rsl cs0 n z =>
    cases hle
    have hz : z = ei.size := by have := hrd.cap; simp [capW] at this; exact this.1
    subst hz
    have hc : srcCells S.h ei.size m (.rsl cs0 m ei.size) = some cs := hrd.cells
    unfold srcCells at hc
    dsimp only at hc
    rw [nbeq, nble, ← Bool.decide_and, cond_dec] at hc
    split at hc
    · rename_i h1
      cases hc
      have hself : veqs cs0 cs0 = true := by have := hrd.self; simp [veq] at this; exact this
      refine ⟨.rsl ((cs0.take (hi * ei.size)).drop (lo * ei.size)) (hi - lo) ei.size, ?_, ⟨by rw [List.take_take, Nat.min_eq_left hmz] at hlen; simp only [capW, nbeq, decide_true, Bool.true_and, decide_eq_true_eq]; exact hlen, ?_, rfl, rfl, ?_, hlen⟩, fun b h => h⟩
      · unfold aslice; dsimp only; rw [hi0]; dsimp only; rw [hd]; dsimp only; rw [he']; dsimp only; rw [nbeq, decide_eq_true rfl]; simp only [cond_true]; rw [hb m (Nat.le_refl _)]
      · simp [veq, veqs_drop _ (veqs_take _ hself)]
      · rw [List.take_take, Nat.min_eq_left hmz] at hlen ⊢
        unfold srcCells; dsimp only
        rw [nbeq, nble, decide_eq_true rfl, decide_eq_true (by rw [hlen]; exact Nat.le_refl _)]
        simp only [Bool.and_self, cond_true]
        rw [List.take_of_length_le (by rw [hlen]; exact Nat.le_refl _)]
    · cases hc
  | _ => have := hrd.sl; cases this
theorem Ev_slice_lo {k : IntKind} {i ei : TI} {el m lo : Nat} {v : AV} {cs : List AV} (hx : od l x = some v) (hy : od l y = some (.int k ((lo : Nat) : Int))) (hi0 : X.ti t = some i) (hd : i.desc = .slice el) (he' : X.ti el = some ei) (hrd : Rd S v ei.size cs m) (hlo : lo ≤ m)
    (hR : ∀ v', Rd S v' ei.size (cs.drop (lo * ei.size)) (m - lo) → (∀ b, blkOf v' = some b → blkOf v = some b) → R v' S) : Ev X l S (.slice t x (some y) none none) R := by
  obtain ⟨v', h1, h2, h3⟩ := slice_rd (hi := m) hi0 hd he' hrd hlo (Nat.le_refl _) (.inr ⟨k, rfl⟩) (.inl ⟨rfl, rfl⟩)
  rw [List.take_of_length_le (by rw [hrd.size]; exact Nat.le_refl _)] at h2
  exact Ev_slice hx (by unfold odopt; dsimp only; rw [hy]) rfl rfl hi0 hd he' (by have := hrd.sl; cases v <;> first | rfl | cases this) h1 (hR v' h2 h3)
theorem Ev_slice_hi {k : IntKind} {i ei : TI} {el m hi : Nat} {v : AV} {cs : List AV} (hx : od l x = some v) (hy : od l y = some (.int k ((hi : Nat) : Int))) (hi0 : X.ti t = some i) (hd : i.desc = .slice el) (he' : X.ti el = some ei) (hrd : Rd S v ei.size cs m) (hhi : hi ≤ m)
    (hR : ∀ v', Rd S v' ei.size (cs.take (hi * ei.size)) hi → (∀ b, blkOf v' = some b → blkOf v = some b) → R v' S) : Ev X l S (.slice t x none (some y) none) R := by
  obtain ⟨v', h1, h2, h3⟩ := slice_rd (lo := 0) hi0 hd he' hrd (Nat.zero_le _) hhi (.inl ⟨rfl, rfl⟩) (.inr ⟨k, rfl⟩)
  rw [Nat.zero_mul, List.drop_zero, Nat.sub_zero] at h2
  exact Ev_slice hx rfl (by unfold odopt; dsimp only; rw [hy]) rfl hi0 hd he' (by have := hrd.sl; cases v <;> first | rfl | cases this) h1 (hR v' h2 h3)
theorem Ev_slice_lh {z : Operand} {k k' : IntKind} {i ei : TI} {el m lo hi : Nat} {v : AV} {cs : List AV} (hx : od l x = some v) (hy : od l y = some (.int k ((lo : Nat) : Int))) (hz : od l z = some (.int k' ((hi : Nat) : Int))) (hi0 : X.ti t = some i) (hd : i.desc = .slice el) (he' : X.ti el = some ei) (hrd : Rd S v ei.size cs m) (hlo : lo ≤ hi) (hhi : hi ≤ m)
    (hR : ∀ v', Rd S v' ei.size ((cs.take (hi * ei.size)).drop (lo * ei.size)) (hi - lo) → (∀ b, blkOf v' = some b → blkOf v = some b) → R v' S) : Ev X l S (.slice t x (some y) (some z) none) R := by
  obtain ⟨v', h1, h2, h3⟩ := slice_rd hi0 hd he' hrd hlo hhi (.inr ⟨k, rfl⟩) (.inr ⟨k', rfl⟩)
  exact Ev_slice hx (by unfold odopt; dsimp only; rw [hy]) (by unfold odopt; dsimp only; rw [hz]) rfl hi0 hd he' (by have := hrd.sl; cases v <;> first | rfl | cases this) h1 (hR v' h2 h3)
/-! texts -/
theorem bytesOf_sbytes {s : List Nat} (h : ∀ c ∈ s, c < 256) : bytesOf (sbytes s) = some s := by
  induction s with
  | nil => rfl
  | cons c s ih =>
    show bytesOf (AV.int .u8 (.ofNat c) :: sbytes s) = _
    unfold bytesOf
    rw [nblt, decide_eq_true (h c (by simp)), ih fun d hd => h d (by simp [hd])]
    rfl
theorem Ev_conv_to_str {s d el m : Nat} {si di ei : TI} {v : AV} {cs : List AV} {z : List Nat} (hx : od l x = some v) (hs : X.ti s = some si) (hd : X.ti d = some di) (hdd : di.desc = .string) (hsd : si.desc = .slice el) (he' : X.ti el = some ei) (hk : ei.desc = .int .u8) (hrd : Rd S v 1 cs m) (hz : bytesOf cs = some z) (hR : R (.str z) S) : Ev X l S (.convert s d x) R := by
  refine Ev_read (v := .str z) (fun e he => ⟨?_, ?_⟩) (by unfold veq; rw [seq_eq]; simp) hR
  · unfold cls; dsimp only; rw [hs]; dsimp only; rw [hsd]; dsimp only; rw [hd]; dsimp only; rw [hdd]
  · unfold readOp; dsimp only; rw [od_ok he hx]; dsimp only; rw [hd]; dsimp only; rw [hs]; dsimp only; rw [hdd]; dsimp only; rw [hsd]; dsimp only; rw [he']; dsimp only; rw [hk]
    have h2 := hrd.cells
    have h3 := hrd.len
    have h4 := hrd.size
    cases v with
    | slice b o n k =>
      cases h3
      unfold srcCells at h2; dsimp only at h2 ⊢
      rw [Nat.mul_one] at h2; rw [h2]; dsimp only; rw [hz]
    | rsl cs0 n z0 =>
      cases h3
      have hz0 : z0 = 1 ∧ cs0.length = m * z0 := by have := hrd.cap; simpa [capW] using this
      obtain ⟨hz0, hl0⟩ := hz0
      subst hz0
      unfold srcCells at h2; dsimp only at h2 ⊢
      rw [nbeq, nble, ← Bool.decide_and, cond_dec] at h2
      split at h2
      · rename_i h1
        cases h2
        rw [List.take_of_length_le (by omega)] at hz
        rw [show Nat.beq 1 1 = true from rfl]
        simp only [cond_true]
        rw [hz]
      · cases h2
    | nils => cases h3; cases List.eq_nil_of_length_eq_zero (by omega : cs.length = 0); cases hz; rfl
    | emp => cases h3; cases List.eq_nil_of_length_eq_zero (by omega : cs.length = 0); cases hz; rfl
    | _ => have := hrd.sl; cases this
theorem Ev_conv_to_str_r {s d el m : Nat} {si di ei : TI} {v : AV} {cs : List AV} {z : List Nat} (hx : od l x = some v) (hs : X.ti s = some si) (hd : X.ti d = some di) (hdd : di.desc = .string) (hsd : si.desc = .slice el) (he' : X.ti el = some ei) (hk : ei.desc = .int .i32) (hrd : Rd S v 1 cs m) (hz : runesOf cs = some z) (hR : R (.str z) S) : Ev X l S (.convert s d x) R := by
  refine Ev_read (v := .str z) (fun e he => ⟨?_, ?_⟩) (by unfold veq; rw [seq_eq]; simp) hR
  · unfold cls; dsimp only; rw [hs]; dsimp only; rw [hsd]; dsimp only; rw [hd]; dsimp only; rw [hdd]
  · unfold readOp; dsimp only; rw [od_ok he hx]; dsimp only; rw [hd]; dsimp only; rw [hs]; dsimp only; rw [hdd]; dsimp only; rw [hsd]; dsimp only; rw [he']; dsimp only; rw [hk]
    have h2 := hrd.cells
    have h3 := hrd.len
    have h4 := hrd.size
    cases v with
    | slice b o n k =>
      cases h3
      unfold srcCells at h2; dsimp only at h2 ⊢
      rw [Nat.mul_one] at h2; rw [h2]; dsimp only; rw [hz]
    | rsl cs0 n z0 =>
      cases h3
      have hz0 : z0 = 1 ∧ cs0.length = m * z0 := by have := hrd.cap; simpa [capW] using this
      obtain ⟨hz0, hl0⟩ := hz0
      subst hz0
      unfold srcCells at h2; dsimp only at h2 ⊢
      rw [nbeq, nble, ← Bool.decide_and, cond_dec] at h2
      split at h2
      · rename_i h1
        cases h2
        rw [List.take_of_length_le (by omega)] at hz
        rw [show Nat.beq 1 1 = true from rfl]
        simp only [cond_true]
        rw [hz]
      · cases h2
    | nils => cases h3; cases List.eq_nil_of_length_eq_zero (by omega : cs.length = 0); cases hz; rfl
    | emp => cases h3; cases List.eq_nil_of_length_eq_zero (by omega : cs.length = 0); cases hz; rfl
    | _ => have := hrd.sl; cases this
theorem Ev_next_end {r pos : Nat} {s : List Nat} (hx : od l x = some (.ptr r 0)) (hr : S.h.get r = some (.sit s pos)) (hd : s.drop pos = []) (hR : R (.tup [.bool false]) S) : Ev X l S (.next x true) R := by
  refine Ev_loud (fun e he => ⟨rfl, ?_⟩) (Nat.le_refl _) hR
  unfold loudOp; dsimp only; simp only [cond_true]; rw [od_ok he hx]; dsimp only; simp only [anext, hr, hd]
theorem Ev_next {r pos c w : Nat} {s : List Nat} (hx : od l x = some (.ptr r 0)) (hr : S.h.get r = some (.sit s pos)) (hd : s.drop pos ≠ []) (hc : decodeR (s.drop pos) = (c, w)) (hn : r < 1000000000)
    (hR : ∀ S', S'.n = S.n → S'.h.get r = some (.sit s (pos + w)) → (∀ c, c ≠ r → S'.h.get c = S.h.get c) → R (.tup [.bool true, .int .i64 ((pos : Nat) : Int), .int .i32 ((c : Nat) : Int)]) S') : Ev X l S (.next x true) R := by
  refine Ev_loud (S' := S.put r (.sit s (pos + w))) (v := .tup [.bool true, .int .i64 (.ofNat pos), .int .i32 (.ofNat c)]) (fun e he => ⟨rfl, ?_⟩) (Nat.le_refl _) (hR _ rfl (by rw [get_put hn, if_pos rfl]) (fun c hc => by rw [get_put hn, if_neg hc]))
  unfold loudOp; dsimp only; simp only [cond_true]; rw [od_ok he hx]; dsimp only; simp only [anext, hr]
  cases hdd : s.drop pos with
  | nil => exact absurd hdd hd
  | cons b l' => dsimp only; rw [hdd] at hc; rw [hc]
end
end
end GX
