/- What the row leans on, part 1: texts one behind the other. No condition. -/
import Derived.Test.YtjbpegggfacojaaMg0
import Derived.RowKit3
import Derived.Laws.Cells
import Derived.Laws.Tables
/- GX: what the abstract machine's values and heap say of the model's. -/




namespace GX
open Go

structure Loc where
  blk : Nat
  base : Nat
  tot : Nat
abbrev Phi := Nat → Option Loc

def capOk (l : Loc) (o len : Nat) (cap : Cap) (c : Nat) : Prop :=
  match cap with
  | .ex k => c = k ∧ len ≤ k
  | .op z => len ≤ c ∧ l.base + o + c * z = l.tot ∧ c < 9223372036854775808

def bytes (b : ByteArray) : List Nat := b.data.toList.map (·.toNat)

/-- what the symbols stand for; blocks that stay as they are (tables), which the abstract heap does not hold -/
class Val where
  sym : Nat → Int
  ro : Nat → Option Obj
mutual
def vrel [Val] (φ : Phi) : AV → Value → Prop
  | .bool b, v => v = .bool b
  | .int k n, v => v = .int k n
  | .str s, v => ∃ b, v = .string b ∧ bytes b = s
  | .ptr b o, v => ∃ l, φ b = some l ∧ v = .pointer (some ⟨l.blk, l.base + o, none⟩)
  | .nilp, v => v = .pointer none
  | .slice b o len cap, v => ∃ l c, φ b = some l ∧ v = .slice (some ⟨l.blk, l.base + o, none⟩) len c ∧ capOk l o len cap c
  | .emp, v => ∃ a c, v = .slice (some a) 0 c
  | .nils, v => v = .slice none 0 0
  | .map r, v => ∃ l, φ r = some l ∧ v = .map (some l.blk)
  | .nilm, v => v = .map none
  | .func fn f c, v => ∃ fs cs, v = .func fn fs cs ∧ vrels φ f fs.toList ∧ vrels φ c cs.toList
  | .nilf, v => v = .nilFunc
  | .iface t a, v => ∃ x, v = .iface t x ∧ vrel φ a x
  | .nili, v => v = .nilIface
  | .agg cs, v => ∃ xs, v = .agg xs ∧ vrels φ cs xs.toList
  | .tup cs, v => ∃ xs, v = .tuple xs ∧ vrels φ cs xs.toList
  | .sym k i, v => v = .int k (Val.sym i)
  | .rsl cs len sz, v => ∃ g off cap c t fz, v = .slice (some ⟨g, off, none⟩) len cap ∧ len ≤ cap ∧ cs.length = len * sz ∧ Val.ro g = some (.cells c t fz) ∧ off + cs.length ≤ c.size ∧ vrels φ cs ((c.toList.drop off).take cs.length)
  | .rptr cs o, v => ∃ g off c t fz, v = .pointer (some ⟨g, off + o, none⟩) ∧ Val.ro g = some (.cells c t fz) ∧ off + cs.length ≤ c.size ∧ vrels φ cs ((c.toList.drop off).take cs.length)
def vrels [Val] (φ : Phi) : List AV → List Value → Prop
  | [], l => l = []
  | a :: asx, l => ∃ v vs, l = v :: vs ∧ vrel φ a v ∧ vrels φ asx vs
end

def Sub (φ φ' : Phi) : Prop := ∀ id l, φ id = some l → φ' id = some l
theorem Sub.refl (φ : Phi) : Sub φ φ := fun _ _ h => h
theorem Sub.trans {φ φ' φ'' : Phi} (h : Sub φ φ') (h' : Sub φ' φ'') : Sub φ φ'' := fun id l e => h' id l (h id l e)

mutual
theorem vrel_mono [Val] {φ φ' : Phi} (h : Sub φ φ') : ∀ (a : AV) {v : Value}, vrel φ a v → vrel φ' a v
  | .bool _, _, r => r
  | .int _ _, _, r => r
  | .str _, _, r => r
  | .ptr _ _, _, r => by simp only [vrel] at *; obtain ⟨l, e, rfl⟩ := r; exact ⟨l, h _ _ e, rfl⟩
  | .nilp, _, r => r
  | .slice _ _ _ _, _, r => by simp only [vrel] at *; obtain ⟨l, c, e, rfl, k⟩ := r; exact ⟨l, c, h _ _ e, rfl, k⟩
  | .emp, _, r => r
  | .nils, _, r => r
  | .map _, _, r => by simp only [vrel] at *; obtain ⟨l, e, rfl⟩ := r; exact ⟨l, h _ _ e, rfl⟩
  | .nilm, _, r => r
  | .func _ f c, _, r => by simp only [vrel] at *; obtain ⟨fs, cs, rfl, x, y⟩ := r; exact ⟨fs, cs, rfl, vrels_mono h f x, vrels_mono h c y⟩
  | .nilf, _, r => r
  | .iface _ a, _, r => by simp only [vrel] at *; obtain ⟨x, rfl, y⟩ := r; exact ⟨x, rfl, vrel_mono h a y⟩
  | .nili, _, r => r
  | .agg cs, _, r => by simp only [vrel] at *; obtain ⟨x, rfl, y⟩ := r; exact ⟨x, rfl, vrels_mono h cs y⟩
  | .tup cs, _, r => by simp only [vrel] at *; obtain ⟨x, rfl, y⟩ := r; exact ⟨x, rfl, vrels_mono h cs y⟩
  | .sym _ _, _, r => r
  | .rsl cs _ _, _, r => by simp only [vrel] at *; obtain ⟨g, off, cap, c, t, fz, a1, a2, a3, a4, a5, a6⟩ := r; exact ⟨g, off, cap, c, t, fz, a1, a2, a3, a4, a5, vrels_mono h cs a6⟩
  | .rptr cs _, _, r => by simp only [vrel] at *; obtain ⟨g, off, c, t, fz, a1, a2, a3, a4⟩ := r; exact ⟨g, off, c, t, fz, a1, a2, a3, vrels_mono h cs a4⟩
theorem vrels_mono [Val] {φ φ' : Phi} (h : Sub φ φ') : ∀ (asx : List AV) {vs : List Value}, vrels φ asx vs → vrels φ' asx vs
  | [], _, r => r
  | a :: asx, _, r => by simp only [vrels] at *; obtain ⟨v, vs, rfl, x, y⟩ := r; exact ⟨v, vs, rfl, vrel_mono h a x, vrels_mono h asx y⟩
end

theorem vrels_nil [Val] {φ : Phi} : vrels φ [] [] := by simp [vrels]
theorem vrels_cons [Val] {φ : Phi} {a asx v vs} (h : vrel φ a v) (t : vrels φ asx vs) : vrels φ (a :: asx) (v :: vs) := by simp only [vrels]; exact ⟨v, vs, rfl, h, t⟩
theorem vrels_length [Val] {φ : Phi} : ∀ {asx : List AV} {vs : List Value}, vrels φ asx vs → asx.length = vs.length
  | [], _, h => by simp only [vrels] at h; simp [h]
  | a :: asx, _, h => by simp only [vrels] at h; obtain ⟨v, vs, rfl, _, t⟩ := h; simp [vrels_length t]
theorem vrels_append [Val] {φ : Phi} : ∀ {asx : List AV} {vs : List Value} {bs us}, vrels φ asx vs → vrels φ bs us → vrels φ (asx ++ bs) (vs ++ us)
  | [], _, _, _, h, k => by simp only [vrels] at h; subst h; simpa using k
  | a :: asx, _, _, _, h, k => by
    simp only [vrels] at h; obtain ⟨v, vs, rfl, x, t⟩ := h
    exact vrels_cons x (vrels_append t k)
theorem vrels_drop [Val] {φ : Phi} : ∀ (n : Nat) {asx : List AV} {vs : List Value}, vrels φ asx vs → vrels φ (asx.drop n) (vs.drop n)
  | 0, _, _, h => by simpa using h
  | n + 1, [], _, h => by simp only [vrels] at h; subst h; simp [vrels]
  | n + 1, a :: asx, _, h => by simp only [vrels] at h; obtain ⟨v, vs, rfl, x, t⟩ := h; simpa using vrels_drop n t
theorem vrels_take [Val] {φ : Phi} : ∀ (n : Nat) {asx : List AV} {vs : List Value}, vrels φ asx vs → vrels φ (asx.take n) (vs.take n)
  | 0, _, _, h => by simp [vrels]
  | n + 1, [], _, h => by simp only [vrels] at h; subst h; simp [vrels]
  | n + 1, a :: asx, _, h => by simp only [vrels] at h; obtain ⟨v, vs, rfl, x, t⟩ := h; simpa using vrels_cons x (vrels_take n t)
theorem vrels_get [Val] {φ : Phi} : ∀ {asx : List AV} {vs : List Value}, vrels φ asx vs → ∀ (i : Nat) (a : AV), asx[i]? = some a → ∃ v, vs[i]? = some v ∧ vrel φ a v
  | [], _, _, i, a, e => by simp at e
  | a :: asx, _, h, 0, b, e => by simp only [vrels] at h; obtain ⟨v, vs, rfl, x, t⟩ := h; simp at e; subst e; exact ⟨v, by simp, x⟩
  | a :: asx, _, h, i + 1, b, e => by simp only [vrels] at h; obtain ⟨v, vs, rfl, x, t⟩ := h; simp at e; simpa using vrels_get t i b e
theorem vrels_lput [Val] {φ : Phi} : ∀ {asx : List AV} {vs : List Value} (o : Nat) {bs : List AV} {us : List Value}, vrels φ asx vs → vrels φ bs us → vrels φ (lput asx o bs) (lput vs o us)
  | [], _, _, _, _, h, _ => by simp only [vrels] at h; subst h; simp [lput, vrels]
  | a :: asx, _, 0, [], _, h, k => by
    simp only [vrels] at h k; obtain ⟨v, vs, rfl, x, t⟩ := h; subst k; simpa [lput] using vrels_cons x t
  | a :: asx, _, 0, b :: bs, _, h, k => by
    simp only [vrels] at h k; obtain ⟨v, vs, rfl, x, t⟩ := h; obtain ⟨u, us, rfl, y, s⟩ := k
    simpa [lput] using vrels_cons y (vrels_lput 0 t s)
  | a :: asx, _, o + 1, bs, us, h, k => by
    simp only [vrels] at h; obtain ⟨v, vs, rfl, x, t⟩ := h
    simpa [lput] using vrels_cons x (vrels_lput o t k)
theorem lput_length {α : Type} : ∀ (asx : List α) (o : Nat) (bs : List α), (lput asx o bs).length = asx.length
  | [], _, _ => by simp [lput]
  | _ :: _, 0, [] => by simp [lput]
  | _ :: asx, 0, _ :: bs => by simp [lput, lput_length asx 0 bs]
  | _ :: asx, o + 1, bs => by simp [lput, lput_length asx o bs]
theorem lput_nil {α : Type} : ∀ (asx : List α) (o : Nat), lput asx o [] = asx
  | [], _ => by simp [lput]
  | _ :: _, 0 => by simp [lput]
  | _ :: asx, o + 1 => by simp [lput, lput_nil asx o]
theorem lput_cons {α : Type} : ∀ (asx : List α) (o : Nat) (b : α) (bs : List α), o < asx.length → lput asx o (b :: bs) = lput (asx.set o b) (o + 1) bs
  | [], _, _, _, h => by simp at h
  | a :: asx, 0, b, bs, _ => by
    cases asx with
    | nil => simp [lput]
    | cons c asx => cases bs <;> simp [lput]
  | a :: asx, o + 1, b, bs, h => by
    simp only [lput, List.set_cons_succ]
    rw [lput_cons asx o b bs (by simpa using h)]
theorem lput_set_get {α : Type} (asx : List α) (o : Nat) (bs : List α) (i : Nat) : (lput asx o bs)[i]? = if o ≤ i ∧ i < o + bs.length ∧ i < asx.length then bs[i - o]? else asx[i]? := by
  induction asx generalizing o bs i with
  | nil => simp [lput]
  | cons a asx ih =>
    cases o with
    | zero =>
      cases bs with
      | nil => simp [lput]
      | cons b bs =>
        cases i with
        | zero => simp [lput]
        | succ i =>
          simp only [lput, List.getElem?_cons_succ, ih, List.length_cons]
          by_cases h : i < bs.length ∧ i < asx.length
          · rw [if_pos (by omega), if_pos (by omega)]; simp
          · rw [if_neg (by omega), if_neg (by omega)]
    | succ o =>
      cases i with
      | zero => simp [lput]
      | succ i =>
        simp only [lput, List.getElem?_cons_succ, ih, List.length_cons]
        by_cases h : o ≤ i ∧ i < o + bs.length ∧ i < asx.length
        · rw [if_pos h, if_pos (by omega)]; congr 1; omega
        · rw [if_neg h, if_neg (by omega)]

/-! constants -/
mutual
theorem drop_lput_after {α : Type} (l : List α) (o : Nat) (x : List α) (k : Nat) (h : o + x.length ≤ k) : (lput l o x).drop k = l.drop k := by
  apply List.ext_getElem?
  intro q
  rw [List.getElem?_drop, List.getElem?_drop, lput_set_get, if_neg (by omega)]
theorem vrels_mem [Val] {φ : Phi} : ∀ {asx : List AV} {vs : List Value}, vrels φ asx vs → ∀ v ∈ vs, ∃ a, vrel φ a v
  | [], _, h, v, hv => by simp only [vrels] at h; subst h; cases hv
  | a :: asx, _, h, v, hv => by
    simp only [vrels] at h
    obtain ⟨u, us, rfl, x, t⟩ := h
    rcases List.mem_cons.1 hv with e | e
    · exact ⟨a, by rw [e]; exact x⟩
    · exact vrels_mem t v e
theorem ofVal_rel [Val] {φ : Phi} : ∀ (d : Nat) (v : Value) {a : AV}, ofVal d v = some a → vrel φ a v
  | d, .bool b, a, h => by cases d <;> simp [ofVal] at h <;> subst h <;> simp [vrel]
  | d, .int k n, a, h => by cases d <;> simp [ofVal] at h <;> subst h <;> simp [vrel]
  | d, .string s, a, h => by cases d <;> simp [ofVal] at h <;> subst h <;> exact ⟨s, rfl, rfl⟩
  | d, .pointer p, a, h => by cases p <;> cases d <;> simp [ofVal] at h <;> subst h <;> simp [vrel]
  | d, .slice p n c, a, h => by
    cases p with
    | some _ => cases d <;> simp [ofVal] at h
    | none => cases n <;> cases c <;> cases d <;> simp [ofVal] at h <;> subst h <;> simp [vrel]
  | d, .map r, a, h => by cases r <;> cases d <;> simp [ofVal] at h <;> subst h <;> simp [vrel]
  | d, .nilFunc, a, h => by cases d <;> simp [ofVal] at h <;> subst h <;> simp [vrel]
  | d, .nilIface, a, h => by cases d <;> simp [ofVal] at h <;> subst h <;> simp [vrel]
  | 0, .iface t v, a, h => by simp [ofVal] at h
  | d + 1, .iface t v, a, h => by
    simp only [ofVal] at h
    split at h
    · rename_i b hb; simp at h; subst h; exact ⟨v, rfl, ofVal_rel d v hb⟩
    · simp at h
  | 0, .agg v, a, h => by simp [ofVal] at h
  | d + 1, .agg v, a, h => by
    simp only [ofVal] at h
    split at h
    · rename_i b hb; simp at h; subst h; exact ⟨v, rfl, ofVals_rel d v.toList hb⟩
    · simp at h
  | 0, .tuple v, a, h => by simp [ofVal] at h
  | d + 1, .tuple v, a, h => by
    simp only [ofVal] at h
    split at h
    · rename_i b hb; simp at h; subst h; exact ⟨v, rfl, ofVals_rel d v.toList hb⟩
    · simp at h
  | d, .float _ _, a, h => by cases d <;> simp [ofVal] at h
  | d, .complex _ _ _, a, h => by cases d <;> simp [ofVal] at h
  | d, .chan _, a, h => by cases d <;> simp [ofVal] at h
  | d, .func _ _ _, a, h => by cases d <;> simp [ofVal] at h
theorem ofVals_rel [Val] {φ : Phi} : ∀ (d : Nat) (vs : List Value) {asx : List AV}, ofVals d vs = some asx → vrels φ asx vs
  | d, [], asx, h => by cases d <;> simp [ofVals] at h <;> subst h <;> simp [vrels]
  | 0, v :: vs, asx, h => by simp [ofVals] at h
  | d + 1, v :: vs, asx, h => by
    simp only [ofVals] at h
    split at h
    · rename_i a l ha hl; simp at h; subst h; exact vrels_cons (ofVal_rel d v ha) (ofVals_rel d vs hl)
    · simp at h
end

theorem vrel_cells [Val] {φ : Phi} {a : AV} {v : Value} (h : vrel φ a v) : vrels φ a.cells v.cells.toList := by
  cases a with
  | agg cs => simp only [vrel] at h; obtain ⟨xs, rfl, k⟩ := h; simpa [AV.cells, Value.cells] using k
  | tup cs => have h' := h; simp only [vrel] at h; obtain ⟨xs, rfl, k⟩ := h; simpa [AV.cells, Value.cells] using vrels_cons h' vrels_nil
  | func _ _ _ => have h' := h; simp only [vrel] at h; obtain ⟨_, _, rfl, _⟩ := h; simpa [AV.cells, Value.cells] using vrels_cons h' vrels_nil
  | iface _ _ => have h' := h; simp only [vrel] at h; obtain ⟨_, rfl, _⟩ := h; simpa [AV.cells, Value.cells] using vrels_cons h' vrels_nil
  | str _ => have h' := h; simp only [vrel] at h; obtain ⟨_, rfl, _⟩ := h; simpa [AV.cells, Value.cells] using vrels_cons h' vrels_nil
  | ptr _ _ => have h' := h; simp only [vrel] at h; obtain ⟨_, _, rfl⟩ := h; simpa [AV.cells, Value.cells] using vrels_cons h' vrels_nil
  | slice _ _ _ _ => have h' := h; simp only [vrel] at h; obtain ⟨_, _, _, rfl, _⟩ := h; simpa [AV.cells, Value.cells] using vrels_cons h' vrels_nil
  | emp => have h' := h; simp only [vrel] at h; obtain ⟨_, _, rfl⟩ := h; simpa [AV.cells, Value.cells] using vrels_cons h' vrels_nil
  | map _ => have h' := h; simp only [vrel] at h; obtain ⟨_, _, rfl⟩ := h; simpa [AV.cells, Value.cells] using vrels_cons h' vrels_nil
  | rsl _ _ _ => have h' := h; simp only [vrel] at h; obtain ⟨_, _, _, _, _, _, rfl, _⟩ := h; simpa [AV.cells, Value.cells] using vrels_cons h' vrels_nil
  | rptr _ _ => have h' := h; simp only [vrel] at h; obtain ⟨_, _, _, _, _, rfl, _⟩ := h; simpa [AV.cells, Value.cells] using vrels_cons h' vrels_nil
  | _ => have h' := h; simp only [vrel] at h; subst h; simpa [AV.cells, Value.cells] using vrels_cons h' vrels_nil
theorem vrel_one [Val] {φ : Phi} {a : AV} {v : Value} (h : vrel φ a v) (ha : a.one = true) : v.oneCell' = true := by
  cases a with
  | agg cs => simp [AV.one] at ha
  | tup cs => simp [AV.one] at ha
  | func _ _ _ => simp only [vrel] at h; obtain ⟨_, _, rfl, _⟩ := h; rfl
  | iface _ _ => simp only [vrel] at h; obtain ⟨_, rfl, _⟩ := h; rfl
  | str _ => simp only [vrel] at h; obtain ⟨_, rfl, _⟩ := h; rfl
  | ptr _ _ => simp only [vrel] at h; obtain ⟨_, _, rfl⟩ := h; rfl
  | slice _ _ _ _ => simp only [vrel] at h; obtain ⟨_, _, _, rfl, _⟩ := h; rfl
  | emp => simp only [vrel] at h; obtain ⟨_, _, rfl⟩ := h; rfl
  | map _ => simp only [vrel] at h; obtain ⟨_, _, rfl⟩ := h; rfl
  | rsl _ _ _ => simp only [vrel] at h; obtain ⟨_, _, _, _, _, _, rfl, _⟩ := h; rfl
  | rptr _ _ => simp only [vrel] at h; obtain ⟨_, _, _, _, _, rfl, _⟩ := h; rfl
  | _ => simp only [vrel] at h; subst h; rfl

/-! trees -/
theorem nbeq (a b : Nat) : Nat.beq a b = decide (a = b) := by
  rw [Bool.eq_iff_iff]; simp
theorem nble (a b : Nat) : Nat.ble a b = decide (a ≤ b) := by
  rw [Bool.eq_iff_iff]; simp
theorem nblt (a b : Nat) : Nat.blt a b = decide (a < b) := by
  rw [Bool.eq_iff_iff]; simp [Nat.blt]; omega
theorem cond_dec {α : Type} (p : Prop) [Decidable p] (x y : α) : (bif decide p then x else y) = if p then x else y := by
  by_cases h : p <;> simp [h]
theorem half_step {β : Type} (z l r : Nat → β) (n : Nat) : Nat.rec (motive := fun _ => β) (z 0) (fun m _ => Bool.rec (motive := fun _ => β) (l (Nat.div m 2)) (r (Nat.div m 2)) (Nat.beq (Nat.mod m 2) 1)) n = if n = 0 then z 0 else if n % 2 = 1 then l (n / 2) else r (n / 2 - 1) := by
  cases n with
  | zero => rfl
  | succ m =>
    show Bool.rec (motive := fun _ => β) (l (m / 2)) (r (m / 2)) (Nat.beq (m % 2) 1) = _
    rw [if_neg (by omega), nbeq]
    by_cases h : m % 2 = 1
    · rw [if_neg (by omega), decide_eq_true h]
      show r (m / 2) = _
      congr 1; omega
    · rw [if_pos (by omega), decide_eq_false h]
      show l (m / 2) = _
      congr 1; omega
theorem Tr.get_leaf {α : Type} (n : Nat) : (Tr.leaf : Tr α).get n = none := rfl
theorem Tr.get_node {α : Type} (l r : Tr α) (v : Option α) (n : Nat) : (Tr.node l v r).get n = if n = 0 then v else if n % 2 = 1 then l.get (n / 2) else r.get (n / 2 - 1) :=
  half_step (fun _ => v) l.get r.get n
theorem Tr.set_zero {α : Type} (t : Tr α) (n : Nat) (x : α) : Tr.set 0 t n x = t := rfl
theorem Tr.set_leaf {α : Type} (f n : Nat) (x : α) : Tr.set (f + 1) .leaf n x = if n = 0 then .node .leaf (some x) .leaf else if n % 2 = 1 then .node (Tr.set f .leaf (n / 2) x) none .leaf else .node .leaf none (Tr.set f .leaf (n / 2 - 1) x) :=
  half_step (fun _ => Tr.node .leaf (some x) .leaf) (fun k => .node (Tr.set f .leaf k x) none .leaf) (fun k => .node .leaf none (Tr.set f .leaf k x)) n
theorem Tr.set_node {α : Type} (f n : Nat) (x : α) (l r : Tr α) (v : Option α) : Tr.set (f + 1) (.node l v r) n x = if n = 0 then .node l (some x) r else if n % 2 = 1 then .node (Tr.set f l (n / 2) x) v r else .node l v (Tr.set f r (n / 2 - 1) x) :=
  half_step (fun _ => Tr.node l (some x) r) (fun k => .node (Tr.set f l k x) v r) (fun k => .node l v (Tr.set f r k x)) n
theorem Tr.del_leaf {α : Type} (n : Nat) : (Tr.leaf : Tr α).del n = .leaf := rfl
theorem Tr.del_node {α : Type} (n : Nat) (l r : Tr α) (v : Option α) : (Tr.node l v r).del n = if n = 0 then .node l none r else if n % 2 = 1 then .node (l.del (n / 2)) v r else .node l v (r.del (n / 2 - 1)) :=
  half_step (fun _ => Tr.node l none r) (fun k => .node (l.del k) v r) (fun k => .node l v (r.del k)) n
theorem Tr.get_set {α : Type} : ∀ (f : Nat) (t : Tr α) (n : Nat) (x : α) (m : Nat), n + 1 < 2 ^ f → (Tr.set f t n x).get m = if m = n then some x else t.get m
  | 0, t, n, x, m, h => by simp at h
  | f + 1, .leaf, n, x, m, h => by
    have h2 : n + 1 < 2 * 2 ^ f := by rw [Nat.pow_succ] at h; omega
    rw [Tr.set_leaf]
    by_cases hn : n = 0
    · subst hn; simp only [if_true, Tr.get_node, Tr.get_leaf]; split <;> simp_all
    · rw [if_neg hn]
      by_cases ho : n % 2 = 1
      · rw [if_pos ho, Tr.get_node, Tr.get_leaf]
        simp only [Tr.get_set f .leaf (n / 2) x (m / 2) (by omega), Tr.get_leaf]
        by_cases hm : m = n
        · subst hm; simp [hn, ho]
        · rw [if_neg hm]
          split
          · rfl
          · split
            · rw [if_neg (by omega)]
            · rfl
      · rw [if_neg ho, Tr.get_node, Tr.get_leaf]
        simp only [Tr.get_set f .leaf (n / 2 - 1) x (m / 2 - 1) (by omega), Tr.get_leaf]
        by_cases hm : m = n
        · subst hm; simp [hn, ho]
        · rw [if_neg hm]
          split
          · rfl
          · split
            · rfl
            · rw [if_neg (by omega)]
  | f + 1, .node l v r, n, x, m, h => by
    have h2 : n + 1 < 2 * 2 ^ f := by rw [Nat.pow_succ] at h; omega
    rw [Tr.set_node]
    by_cases hn : n = 0
    · subst hn; simp only [if_true, Tr.get_node]; split <;> simp_all
    · rw [if_neg hn]
      by_cases ho : n % 2 = 1
      · rw [if_pos ho, Tr.get_node, Tr.get_node]
        simp only [Tr.get_set f l (n / 2) x (m / 2) (by omega)]
        by_cases hm : m = n
        · subst hm; simp [hn, ho]
        · rw [if_neg hm]
          split
          · rfl
          · split
            · rw [if_neg (by omega)]
            · rfl
      · rw [if_neg ho, Tr.get_node, Tr.get_node]
        simp only [Tr.get_set f r (n / 2 - 1) x (m / 2 - 1) (by omega)]
        by_cases hm : m = n
        · subst hm; simp [hn, ho]
        · rw [if_neg hm]
          split
          · rfl
          · split
            · rfl
            · rw [if_neg (by omega)]
theorem Tr.get_del {α : Type} : ∀ (t : Tr α) (n m : Nat), (t.del n).get m = if m = n then none else t.get m
  | .leaf, n, m => by simp [Tr.del_leaf, Tr.get_leaf]
  | .node l v r, n, m => by
    rw [Tr.del_node]
    by_cases hn : n = 0
    · subst hn; simp only [if_true, Tr.get_node]; split <;> simp_all
    · rw [if_neg hn]
      by_cases ho : n % 2 = 1
      · rw [if_pos ho, Tr.get_node, Tr.get_node]
        simp only [Tr.get_del l (n / 2) (m / 2)]
        by_cases hm : m = n
        · subst hm; simp [hn, ho]
        · rw [if_neg hm]
          split
          · rfl
          · split
            · rw [if_neg (by omega)]
            · rfl
      · rw [if_neg ho, Tr.get_node, Tr.get_node]
        simp only [Tr.get_del r (n / 2 - 1) (m / 2 - 1)]
        by_cases hm : m = n
        · subst hm; simp [hn, ho]
        · rw [if_neg hm]
          split
          · rfl
          · split
            · rfl
            · rw [if_neg (by omega)]
end GX
/- GX: the abstract heap and the world; what a step may change. -/

namespace GX
open Go

def mrel [Val] (φ : Phi) : List (AV × AV × Nat) → List MapEntry → Prop
  | [], l => l = []
  | (k, v, b) :: es, l => ∃ e l', l = e :: l' ∧ vrel φ k e.key ∧ vrel φ v e.val ∧ e.born = b ∧ mrel φ es l'
theorem mrel_mono [Val] {φ φ' : Phi} (h : Sub φ φ') : ∀ (es : List (AV × AV × Nat)) {l : List MapEntry}, mrel φ es l → mrel φ' es l
  | [], _, r => r
  | (k, v, b) :: es, _, r => by
    simp only [mrel] at *
    obtain ⟨e, l', rfl, x, y, z, t⟩ := r
    exact ⟨e, l', rfl, vrel_mono h k x, vrel_mono h v y, z, mrel_mono h es t⟩
theorem mrel_length [Val] {φ : Phi} : ∀ {es : List (AV × AV × Nat)} {l : List MapEntry}, mrel φ es l → es.length = l.length
  | [], _, h => by simp only [mrel] at h; simp [h]
  | (_, _, _) :: es, _, h => by simp only [mrel] at h; obtain ⟨e, l', rfl, _, _, _, t⟩ := h; simp [mrel_length t]

/-- a place that is not frozen, nor will be by a mark behind the block's end -/
def free (fz : Nat × Nat) (i : Nat) : Prop := fz.1 = fz.2 ∨ (i < fz.1 ∧ i < fz.2)
theorem free_not {fz : Nat × Nat} {i : Nat} (h : free fz i) : ¬ (fz.1 ≤ i ∧ i < fz.2) := by unfold free at h; omega
/-- values that lead to no block that the machine knows -/
def flatR [Val] (l : List Value) : Prop := ∀ v ∈ l, ∃ av, vrel (fun _ => none) av v
theorem flatR_nil [Val] : flatR [] := fun v h => by cases h
def brel [Val] (φ : Phi) (b : AB) (l : Loc) (o : Obj) : Prop :=
  match b with
  | .cells t cs sp => ∃ c fz, o = .cells c t fz ∧ (∀ i, i < c.size → free fz i) ∧ l.tot = c.size ∧
      l.base + cs.length ≤ c.size ∧ (sp = false → l.base + cs.length = c.size ∧ ∀ i, ¬ (fz.1 ≤ i ∧ i < fz.2)) ∧ vrels φ cs ((c.toList.drop l.base).take cs.length) ∧ flatR (c.toList.drop (l.base + cs.length))
  | .map es clock => ∃ ea, o = .map ea clock ∧ mrel φ es ea.toList
  | .sit s pos => ∃ b, o = .stringIter b pos ∧ bytes b = s ∧ l.base = 0
theorem brel_mono [Val] {φ φ' : Phi} (h : Sub φ φ') {b : AB} {l : Loc} {o : Obj} (r : brel φ b l o) : brel φ' b l o := by
  cases b with
  | cells t cs sp =>
    simp only [brel] at *
    obtain ⟨c, fz, a1, a2, a3, a4, a5, a6, a7⟩ := r
    exact ⟨c, fz, a1, a2, a3, a4, a5, vrels_mono h cs a6, a7⟩
  | map es clock => simp only [brel] at *; obtain ⟨ea, a1, a2⟩ := r; exact ⟨ea, a1, mrel_mono h es a2⟩
  | sit s pos => exact r

structure wrel [Val] (φ : Phi) (h : Tr AB) (w : World) : Prop where
  blk : ∀ id b, h.get id = some b → ∃ l o, φ id = some l ∧ w.heap[l.blk]? = some o ∧ brel φ b l o
  inj : ∀ id id' b b' l l', h.get id = some b → h.get id' = some b' → φ id = some l → φ id' = some l' → l.blk = l'.blk → id = id'
  small : ∀ id b, h.get id = some b → id < 1000000000
  ro : ∀ g o, Val.ro g = some o → w.heap[g]? = some o ∧ ∀ id b l, h.get id = some b → φ id = some l → l.blk ≠ g

/-- What an execution may have changed. -/
structure Ext (φ : Phi) (h : Tr AB) (n : Nat) (w : World) (φ' : Phi) (h' : Tr AB) (n' : Nat) (w' : World) : Prop where
  le : n ≤ n'
  sub : Sub φ φ'
  new : ∀ id, φ' id = φ id ∨ (n ≤ id ∧ id < n' ∧ ∀ l, φ' id = some l → w.heap.size ≤ l.blk ∨ ∃ id0 b l0, h.get id0 = some b ∧ φ id0 = some l0 ∧ l0.blk = l.blk)
  dom : ∀ id b, h'.get id = some b → (∃ b0, h.get id = some b0) ∨ (n ≤ id ∧ id < n')
  size : w.heap.size ≤ w'.heap.size
  frame : ∀ k, k < w.heap.size → (∀ id b l, h.get id = some b → φ id = some l → l.blk ≠ k) → w'.heap[k]? = w.heap[k]?
  os : w'.os = w.os
  tape : w'.tape = w.tape
  output : w'.output = w.output

theorem Ext.refl (φ : Phi) (h : Tr AB) (n : Nat) (w : World) : Ext φ h n w φ h n w :=
  ⟨Nat.le_refl _, Sub.refl _, fun _ => .inl rfl, fun _ b e => .inl ⟨b, e⟩, Nat.le_refl _, fun _ _ _ => rfl, rfl, rfl, rfl⟩

theorem wrel_lt [Val] {φ : Phi} {h : Tr AB} {w : World} (r : wrel φ h w) {id b l} (e : h.get id = some b) (f : φ id = some l) : l.blk < w.heap.size := by
  obtain ⟨l', o, g, k, _⟩ := r.blk id b e
  rw [f] at g; cases g
  exact (Array.getElem?_eq_some_iff.1 k).1

theorem Ext.trans {φ φ' φ'' : Phi} {h h' h'' : Tr AB} {n n' n'' : Nat} {w w' w'' : World}
    (a : Ext φ h n w φ' h' n' w') (b : Ext φ' h' n' w' φ'' h'' n'' w'')
    (fr : ∀ id, n ≤ id → id < n' → φ id = none) : Ext φ h n w φ'' h'' n'' w'' := by
  have old : ∀ id x l, h'.get id = some x → φ' id = some l → w.heap.size ≤ l.blk ∨ ∃ id0 b l0, h.get id0 = some b ∧ φ id0 = some l0 ∧ l0.blk = l.blk := by
    intro id x l e f
    rcases a.new id with g | ⟨_, _, g⟩
    · rw [g] at f
      rcases a.dom id x e with ⟨b0, hb⟩ | ⟨h1, h2⟩
      · exact .inr ⟨id, b0, l, hb, f, rfl⟩
      · rw [fr id h1 h2] at f; cases f
    · exact g l f
  refine ⟨Nat.le_trans a.le b.le, a.sub.trans b.sub, ?_, ?_, Nat.le_trans a.size b.size, ?_, b.os.trans a.os, b.tape.trans a.tape, b.output.trans a.output⟩
  · intro id
    rcases b.new id with g | ⟨h1, h2, g⟩
    · rcases a.new id with k | ⟨h1, h2, k⟩
      · exact .inl (g.trans k)
      · exact .inr ⟨h1, Nat.lt_of_lt_of_le h2 b.le, fun l e => k l (g ▸ e)⟩
    · refine .inr ⟨Nat.le_trans a.le h1, h2, fun l e => ?_⟩
      rcases g l e with k | ⟨id0, b0, l0, e0, f0, k⟩
      · exact .inl (Nat.le_trans a.size k)
      · rw [← k]; exact old id0 b0 l0 e0 f0
  · intro id x e
    rcases b.dom id x e with ⟨b0, h0⟩ | ⟨h1, h2⟩
    · rcases a.dom id b0 h0 with k | ⟨h1, h2⟩
      · exact .inl k
      · exact .inr ⟨h1, Nat.lt_of_lt_of_le h2 b.le⟩
    · exact .inr ⟨Nat.le_trans a.le h1, h2⟩
  · intro k hk hn
    rw [b.frame k (Nat.lt_of_lt_of_le hk a.size) ?_, a.frame k hk hn]
    intro id x l e f hb
    rcases old id x l e f with g | ⟨id0, b0, l0, e0, f0, g⟩
    · omega
    · exact hn id0 b0 l0 e0 f0 (g.trans hb)

/-- the temporaries -/
structure erel [Val] (φ : Phi) (n : Nat) (e : Env) (tmps : Array Value) : Prop where
  size : tmps.size = n
  small : n < 1000001
  at_ : ∀ t, vrel φ (e.at t) (tmps.getD t undef)
theorem erel.mono [Val] {φ φ' : Phi} {n : Nat} {e : Env} {tmps : Array Value} (r : erel φ n e tmps) (h : Sub φ φ') : erel φ' n e tmps :=
  ⟨r.size, r.small, fun t => vrel_mono h _ (r.at_ t)⟩
theorem Env.at_put (e : Env) (d t : Nat) (v : AV) (h : d < 1000001) : (e.put d v).at t = if t = d then v else e.at t := by
  unfold Env.put Env.at
  rw [Tr.get_set 40 e d v t (by omega)]
  by_cases ht : t = d <;> simp [ht]
theorem vrel_undef [Val] (φ : Phi) : vrel φ (.tup []) undef := ⟨#[], rfl, rfl⟩
theorem erel.put [Val] {φ : Phi} {n : Nat} {e e' : Env} {a : Act} {dst : Option Nat} {v : AV} {u : Value} (r : erel φ n e a.tmps) (hv : vrel φ v u) (h : setDst n e dst v = some e') :
    erel φ n e' (a.put dst u).tmps := by
  cases dst with
  | none => simp [setDst] at h; subst h; exact r
  | some d =>
    simp only [setDst, nblt, cond_dec] at h
    split at h
    · rename_i hd
      simp at h; subst h
      refine ⟨by simp [Act.put, r.size], r.small, fun t => ?_⟩
      have hs := r.small
      rw [Env.at_put _ _ _ _ (by omega)]
      by_cases ht : t = d
      · subst ht
        rw [if_pos rfl]
        have : t < a.tmps.size := by rw [r.size]; exact hd
        simpa [Act.put, Array.getD_eq_getD_getElem?, Array.getElem?_setIfInBounds, this] using hv
      · rw [if_neg ht]
        have := r.at_ t
        simpa [Act.put, Array.getD_eq_getD_getElem?, Array.getElem?_setIfInBounds, Ne.symm ht, ht] using this
    · simp at h
theorem opd_ok [Val] {φ : Phi} {n : Nat} {e : Env} {a : Act} (r : erel φ n e a.tmps) {x : Operand} {v : AV} (h : opd e x = some v) : vrel φ v (a.eval x) := by
  cases x with
  | tmp t => simp [opd] at h; subst h; exact r.at_ t
  | const c => exact ofVal_rel 100 c h
  | global g => simp [opd] at h
  | func f => simp [opd] at h; subst h; exact ⟨#[], #[], rfl, rfl, rfl⟩
theorem opds_ok [Val] {φ : Phi} {n : Nat} {e : Env} {a : Act} (r : erel φ n e a.tmps) : ∀ {l : List Operand} {vs : List AV}, opds e l = some vs → vrels φ vs (l.map a.eval)
  | [], vs, h => by simp [opds] at h; subst h; rfl
  | x :: l, vs, h => by
    simp only [opds] at h
    split at h
    · simp at h
    · rename_i v hv
      split at h
      · simp at h
      · rename_i us hu; simp at h; subst h; exact vrels_cons (opd_ok r hv) (opds_ok r hu)
def prels [Val] (φ : Phi) : List (Nat × AV) → List (Nat × Value) → Prop
  | [], l => l = []
  | (i, a) :: asx, l => ∃ v vs, l = (i, v) :: vs ∧ vrel φ a v ∧ prels φ asx vs
theorem opparts_ok [Val] {φ : Phi} {n : Nat} {e : Env} {a : Act} (r : erel φ n e a.tmps) : ∀ {l : List (Nat × Operand)} {vs : List (Nat × AV)}, opparts e l = some vs → prels φ vs (l.map fun (i, x) => (i, a.eval x))
  | [], vs, h => by simp [opparts] at h; subst h; rfl
  | (i, x) :: l, vs, h => by
    simp only [opparts] at h
    split at h
    · simp at h
    · rename_i v hv
      split at h
      · simp at h
      · rename_i us hu; simp at h; subst h; exact ⟨_, _, rfl, opd_ok r hv, opparts_ok r hu⟩
theorem optOpd_ok [Val] {φ : Phi} {n : Nat} {e : Env} {a : Act} (r : erel φ n e a.tmps) {x : Option Operand} {v : Option AV} (h : optOpd e x = some v) :
    (x = none ∧ v = none) ∨ ∃ y u, x = some y ∧ v = some u ∧ vrel φ u (a.eval y) := by
  cases x with
  | none => simp [optOpd] at h; exact .inl ⟨rfl, h.symm⟩
  | some y =>
    simp only [optOpd] at h
    split at h
    · simp at h
    · rename_i u hu; simp at h; exact .inr ⟨y, u, rfl, h.symm, opd_ok r hu⟩

/-- the tables -/
structure TIok [Val] (P : Program) (t : Nat) (i : TI) : Prop where
  info : ∃ j, P.info? t = some j ∧ j.size = i.size ∧ j.bytes = i.bytes ∧ ∃ z, j.zero = some z ∧ aggD i.desc = aggV z ∧ ∀ φ, vrels φ i.zero z.cells.toList
  und : P.underlying t = some i.desc
theorem mkTI_ok [Val] {P : Program} {t : Nat} {i : TI} (h : mkTI P t = some i) : TIok P t i := by
  unfold mkTI at h
  split at h
  · simp at h
  · rename_i j hj
    split at h
    · rename_i d z hd hz
      split at h
      · rename_i l hl
        cases hb : (aggD d == aggV z) with
        | false => simp [hb] at h
        | true =>
          simp [hb] at h; subst h
          exact ⟨⟨j, hj, rfl, rfl, z, hz, by simpa using hb, fun φ => ofVals_rel _ _ hl⟩, hd⟩
      · simp at h
    · simp at h
theorem TIok.cells [Val] {P : Program} {t : Nat} {i : TI} (h : TIok P t i) : P.cellsOf t = i.size := by
  obtain ⟨j, a, b, _⟩ := h.info; simp [Program.cellsOf, a, b]
section
variable {P : Program} {t : Nat} {i : TI}
theorem TIok.run_und [Val] (h : TIok P t i) (w : World) : (underlying t).run P w = .ok i.desc w := by
  simp [underlying, h.und]
theorem TIok.run_size [Val] (h : TIok P t i) (w : World) : (Go.sizeOf t).run P w = .ok i.size w := by
  obtain ⟨j, a, b, _⟩ := h.info; simp [Go.sizeOf, typeInfo, a, b]
theorem TIok.run_info [Val] (h : TIok P t i) (w : World) : ∃ j, (typeInfo t).run P w = .ok j w ∧ j.size = i.size ∧ j.bytes = i.bytes := by
  obtain ⟨j, a, b, c, _⟩ := h.info; exact ⟨j, by simp [typeInfo, a], b, c⟩
theorem TIok.run_zero [Val] (h : TIok P t i) (w : World) : ∃ z, (zeroValue t).run P w = .ok z w ∧ aggD i.desc = aggV z ∧ ∀ φ, vrels φ i.zero z.cells.toList := by
  obtain ⟨j, a, _, _, z, hz, k⟩ := h.info; exact ⟨z, by simp [zeroValue, typeInfo, a, hz], k⟩
theorem TIok.run_isAgg [Val] (h : TIok P t i) (w : World) : (isAgg t).run P w = .ok (aggD i.desc) w := by
  simp only [isAgg, Sem.run_bind, h.run_und, Result.andThen_ok]
  cases i.desc <;> rfl
end
end GX
