/- GX: what the abstract machine's values and heap say of the model's. -/
import Derived.Test.YtnlfcoojlgdgaaaDoorGXDefs
import Derived.RowKit3
import Derived.Laws.Cells
import Derived.Laws.Tables
namespace GX
open Go

structure Loc where
  blk : Nat
  base : Nat
  tot : Nat
abbrev Phi := Nat → Option Loc

def capOk (l : Loc) (o len : Nat) (cap : Cap) (c : Nat) : Prop :=
  match cap with
  | .ex k => c = k ∧ len ≤ k
  | .op z => len ≤ c ∧ l.base + o + c * z = l.tot

def bytes (b : ByteArray) : List Nat := b.data.toList.map (·.toNat)

/-- what the symbols stand for; blocks that stay as they are (tables), which the abstract heap does not hold -/
class Val where
  sym : Nat → Int
  ro : Nat → Option Obj
mutual
def vrel [Val] (φ : Phi) : AV → Value → Prop
  | .bool b, v => v = .bool b
  | .int k n, v => v = .int k n
  | .str s, v => ∃ b, v = .string b ∧ bytes b = s
  | .ptr b o, v => ∃ l, φ b = some l ∧ v = .pointer (some ⟨l.blk, l.base + o, none⟩)
  | .nilp, v => v = .pointer none
  | .slice b o len cap, v => ∃ l c, φ b = some l ∧ v = .slice (some ⟨l.blk, l.base + o, none⟩) len c ∧ capOk l o len cap c
  | .emp, v => ∃ a c, v = .slice (some a) 0 c
  | .nils, v => v = .slice none 0 0
  | .map r, v => ∃ l, φ r = some l ∧ v = .map (some l.blk)
  | .nilm, v => v = .map none
  | .func fn f c, v => ∃ fs cs, v = .func fn fs cs ∧ vrels φ f fs.toList ∧ vrels φ c cs.toList
  | .nilf, v => v = .nilFunc
  | .iface t a, v => ∃ x, v = .iface t x ∧ vrel φ a x
  | .nili, v => v = .nilIface
  | .agg cs, v => ∃ xs, v = .agg xs ∧ vrels φ cs xs.toList
  | .tup cs, v => ∃ xs, v = .tuple xs ∧ vrels φ cs xs.toList
  | .sym k i, v => v = .int k (Val.sym i)
  | .rsl cs len sz, v => ∃ g off cap c t fz, v = .slice (some ⟨g, off, none⟩) len cap ∧ len ≤ cap ∧ cs.length = len * sz ∧ Val.ro g = some (.cells c t fz) ∧ off + cs.length ≤ c.size ∧ vrels φ cs ((c.toList.drop off).take cs.length)
  | .rptr cs o, v => ∃ g off c t fz, v = .pointer (some ⟨g, off + o, none⟩) ∧ Val.ro g = some (.cells c t fz) ∧ off + cs.length ≤ c.size ∧ vrels φ cs ((c.toList.drop off).take cs.length)
def vrels [Val] (φ : Phi) : List AV → List Value → Prop
  | [], l => l = []
  | a :: as, l => ∃ v vs, l = v :: vs ∧ vrel φ a v ∧ vrels φ as vs
end

def Sub (φ φ' : Phi) : Prop := ∀ id l, φ id = some l → φ' id = some l
theorem Sub.refl (φ : Phi) : Sub φ φ := fun _ _ h => h
theorem Sub.trans {φ φ' φ'' : Phi} (h : Sub φ φ') (h' : Sub φ' φ'') : Sub φ φ'' := fun id l e => h' id l (h id l e)

mutual
theorem vrel_mono [Val] {φ φ' : Phi} (h : Sub φ φ') : ∀ (a : AV) {v : Value}, vrel φ a v → vrel φ' a v
  | .bool _, _, r => r
  | .int _ _, _, r => r
  | .str _, _, r => r
  | .ptr _ _, _, r => by simp only [vrel] at *; obtain ⟨l, e, rfl⟩ := r; exact ⟨l, h _ _ e, rfl⟩
  | .nilp, _, r => r
  | .slice _ _ _ _, _, r => by simp only [vrel] at *; obtain ⟨l, c, e, rfl, k⟩ := r; exact ⟨l, c, h _ _ e, rfl, k⟩
  | .emp, _, r => r
  | .nils, _, r => r
  | .map _, _, r => by simp only [vrel] at *; obtain ⟨l, e, rfl⟩ := r; exact ⟨l, h _ _ e, rfl⟩
  | .nilm, _, r => r
  | .func _ f c, _, r => by simp only [vrel] at *; obtain ⟨fs, cs, rfl, x, y⟩ := r; exact ⟨fs, cs, rfl, vrels_mono h f x, vrels_mono h c y⟩
  | .nilf, _, r => r
  | .iface _ a, _, r => by simp only [vrel] at *; obtain ⟨x, rfl, y⟩ := r; exact ⟨x, rfl, vrel_mono h a y⟩
  | .nili, _, r => r
  | .agg cs, _, r => by simp only [vrel] at *; obtain ⟨x, rfl, y⟩ := r; exact ⟨x, rfl, vrels_mono h cs y⟩
  | .tup cs, _, r => by simp only [vrel] at *; obtain ⟨x, rfl, y⟩ := r; exact ⟨x, rfl, vrels_mono h cs y⟩
  | .sym _ _, _, r => r
  | .rsl cs _ _, _, r => by simp only [vrel] at *; obtain ⟨g, off, cap, c, t, fz, a1, a2, a3, a4, a5, a6⟩ := r; exact ⟨g, off, cap, c, t, fz, a1, a2, a3, a4, a5, vrels_mono h cs a6⟩
  | .rptr cs _, _, r => by simp only [vrel] at *; obtain ⟨g, off, c, t, fz, a1, a2, a3, a4⟩ := r; exact ⟨g, off, c, t, fz, a1, a2, a3, vrels_mono h cs a4⟩
theorem vrels_mono [Val] {φ φ' : Phi} (h : Sub φ φ') : ∀ (as : List AV) {vs : List Value}, vrels φ as vs → vrels φ' as vs
  | [], _, r => r
  | a :: as, _, r => by simp only [vrels] at *; obtain ⟨v, vs, rfl, x, y⟩ := r; exact ⟨v, vs, rfl, vrel_mono h a x, vrels_mono h as y⟩
end

theorem vrels_nil [Val] {φ : Phi} : vrels φ [] [] := by simp [vrels]
theorem vrels_cons [Val] {φ : Phi} {a as v vs} (h : vrel φ a v) (t : vrels φ as vs) : vrels φ (a :: as) (v :: vs) := by simp only [vrels]; exact ⟨v, vs, rfl, h, t⟩
theorem vrels_length [Val] {φ : Phi} : ∀ {as : List AV} {vs : List Value}, vrels φ as vs → as.length = vs.length
  | [], _, h => by simp only [vrels] at h; simp [h]
  | a :: as, _, h => by simp only [vrels] at h; obtain ⟨v, vs, rfl, _, t⟩ := h; simp [vrels_length t]
theorem vrels_append [Val] {φ : Phi} : ∀ {as : List AV} {vs : List Value} {bs us}, vrels φ as vs → vrels φ bs us → vrels φ (as ++ bs) (vs ++ us)
  | [], _, _, _, h, k => by simp only [vrels] at h; subst h; simpa using k
  | a :: as, _, _, _, h, k => by
    simp only [vrels] at h; obtain ⟨v, vs, rfl, x, t⟩ := h
    exact vrels_cons x (vrels_append t k)
theorem vrels_drop [Val] {φ : Phi} : ∀ (n : Nat) {as : List AV} {vs : List Value}, vrels φ as vs → vrels φ (as.drop n) (vs.drop n)
  | 0, _, _, h => by simpa using h
  | n + 1, [], _, h => by simp only [vrels] at h; subst h; simp [vrels]
  | n + 1, a :: as, _, h => by simp only [vrels] at h; obtain ⟨v, vs, rfl, x, t⟩ := h; simpa using vrels_drop n t
theorem vrels_take [Val] {φ : Phi} : ∀ (n : Nat) {as : List AV} {vs : List Value}, vrels φ as vs → vrels φ (as.take n) (vs.take n)
  | 0, _, _, h => by simp [vrels]
  | n + 1, [], _, h => by simp only [vrels] at h; subst h; simp [vrels]
  | n + 1, a :: as, _, h => by simp only [vrels] at h; obtain ⟨v, vs, rfl, x, t⟩ := h; simpa using vrels_cons x (vrels_take n t)
theorem vrels_get [Val] {φ : Phi} : ∀ {as : List AV} {vs : List Value}, vrels φ as vs → ∀ (i : Nat) (a : AV), as[i]? = some a → ∃ v, vs[i]? = some v ∧ vrel φ a v
  | [], _, _, i, a, e => by simp at e
  | a :: as, _, h, 0, b, e => by simp only [vrels] at h; obtain ⟨v, vs, rfl, x, t⟩ := h; simp at e; subst e; exact ⟨v, by simp, x⟩
  | a :: as, _, h, i + 1, b, e => by simp only [vrels] at h; obtain ⟨v, vs, rfl, x, t⟩ := h; simp at e; simpa using vrels_get t i b e
theorem vrels_lput [Val] {φ : Phi} : ∀ {as : List AV} {vs : List Value} (o : Nat) {bs : List AV} {us : List Value}, vrels φ as vs → vrels φ bs us → vrels φ (lput as o bs) (lput vs o us)
  | [], _, _, _, _, h, _ => by simp only [vrels] at h; subst h; simp [lput, vrels]
  | a :: as, _, 0, [], _, h, k => by
    simp only [vrels] at h k; obtain ⟨v, vs, rfl, x, t⟩ := h; subst k; simpa [lput] using vrels_cons x t
  | a :: as, _, 0, b :: bs, _, h, k => by
    simp only [vrels] at h k; obtain ⟨v, vs, rfl, x, t⟩ := h; obtain ⟨u, us, rfl, y, s⟩ := k
    simpa [lput] using vrels_cons y (vrels_lput 0 t s)
  | a :: as, _, o + 1, bs, us, h, k => by
    simp only [vrels] at h; obtain ⟨v, vs, rfl, x, t⟩ := h
    simpa [lput] using vrels_cons x (vrels_lput o t k)
theorem lput_length {α : Type} : ∀ (as : List α) (o : Nat) (bs : List α), (lput as o bs).length = as.length
  | [], _, _ => by simp [lput]
  | _ :: _, 0, [] => by simp [lput]
  | _ :: as, 0, _ :: bs => by simp [lput, lput_length as 0 bs]
  | _ :: as, o + 1, bs => by simp [lput, lput_length as o bs]
theorem lput_nil {α : Type} : ∀ (as : List α) (o : Nat), lput as o [] = as
  | [], _ => by simp [lput]
  | _ :: _, 0 => by simp [lput]
  | _ :: as, o + 1 => by simp [lput, lput_nil as o]
theorem lput_cons {α : Type} : ∀ (as : List α) (o : Nat) (b : α) (bs : List α), o < as.length → lput as o (b :: bs) = lput (as.set o b) (o + 1) bs
  | [], _, _, _, h => by simp at h
  | a :: as, 0, b, bs, _ => by
    cases as with
    | nil => simp [lput]
    | cons c as => cases bs <;> simp [lput]
  | a :: as, o + 1, b, bs, h => by
    simp only [lput, List.set_cons_succ]
    rw [lput_cons as o b bs (by simpa using h)]
theorem lput_set_get {α : Type} (as : List α) (o : Nat) (bs : List α) (i : Nat) : (lput as o bs)[i]? = if o ≤ i ∧ i < o + bs.length ∧ i < as.length then bs[i - o]? else as[i]? := by
  induction as generalizing o bs i with
  | nil => simp [lput]
  | cons a as ih =>
    cases o with
    | zero =>
      cases bs with
      | nil => simp [lput]
      | cons b bs =>
        cases i with
        | zero => simp [lput]
        | succ i =>
          simp only [lput, List.getElem?_cons_succ, ih, List.length_cons]
          by_cases h : i < bs.length ∧ i < as.length
          · rw [if_pos (by omega), if_pos (by omega)]; simp
          · rw [if_neg (by omega), if_neg (by omega)]
    | succ o =>
      cases i with
      | zero => simp [lput]
      | succ i =>
        simp only [lput, List.getElem?_cons_succ, ih, List.length_cons]
        by_cases h : o ≤ i ∧ i < o + bs.length ∧ i < as.length
        · rw [if_pos h, if_pos (by omega)]; congr 1; omega
        · rw [if_neg h, if_neg (by omega)]

/-! constants -/
mutual
theorem ofVal_rel [Val] {φ : Phi} : ∀ (d : Nat) (v : Value) {a : AV}, ofVal d v = some a → vrel φ a v
  | d, .bool b, a, h => by cases d <;> simp [ofVal] at h <;> subst h <;> simp [vrel]
  | d, .int k n, a, h => by cases d <;> simp [ofVal] at h <;> subst h <;> simp [vrel]
  | d, .string s, a, h => by cases d <;> simp [ofVal] at h <;> subst h <;> exact ⟨s, rfl, rfl⟩
  | d, .pointer p, a, h => by cases p <;> cases d <;> simp [ofVal] at h <;> subst h <;> simp [vrel]
  | d, .slice p n c, a, h => by
    cases p with
    | some _ => cases d <;> simp [ofVal] at h
    | none => cases n <;> cases c <;> cases d <;> simp [ofVal] at h <;> subst h <;> simp [vrel]
  | d, .map r, a, h => by cases r <;> cases d <;> simp [ofVal] at h <;> subst h <;> simp [vrel]
  | d, .nilFunc, a, h => by cases d <;> simp [ofVal] at h <;> subst h <;> simp [vrel]
  | d, .nilIface, a, h => by cases d <;> simp [ofVal] at h <;> subst h <;> simp [vrel]
  | 0, .iface t v, a, h => by simp [ofVal] at h
  | d + 1, .iface t v, a, h => by
    simp only [ofVal] at h
    split at h
    · rename_i b hb; simp at h; subst h; exact ⟨v, rfl, ofVal_rel d v hb⟩
    · simp at h
  | 0, .agg v, a, h => by simp [ofVal] at h
  | d + 1, .agg v, a, h => by
    simp only [ofVal] at h
    split at h
    · rename_i b hb; simp at h; subst h; exact ⟨v, rfl, ofVals_rel d v.toList hb⟩
    · simp at h
  | 0, .tuple v, a, h => by simp [ofVal] at h
  | d + 1, .tuple v, a, h => by
    simp only [ofVal] at h
    split at h
    · rename_i b hb; simp at h; subst h; exact ⟨v, rfl, ofVals_rel d v.toList hb⟩
    · simp at h
  | d, .float _ _, a, h => by cases d <;> simp [ofVal] at h
  | d, .complex _ _ _, a, h => by cases d <;> simp [ofVal] at h
  | d, .chan _, a, h => by cases d <;> simp [ofVal] at h
  | d, .func _ _ _, a, h => by cases d <;> simp [ofVal] at h
theorem ofVals_rel [Val] {φ : Phi} : ∀ (d : Nat) (vs : List Value) {as : List AV}, ofVals d vs = some as → vrels φ as vs
  | d, [], as, h => by cases d <;> simp [ofVals] at h <;> subst h <;> simp [vrels]
  | 0, v :: vs, as, h => by simp [ofVals] at h
  | d + 1, v :: vs, as, h => by
    simp only [ofVals] at h
    split at h
    · rename_i a l ha hl; simp at h; subst h; exact vrels_cons (ofVal_rel d v ha) (ofVals_rel d vs hl)
    · simp at h
end

theorem vrel_cells [Val] {φ : Phi} {a : AV} {v : Value} (h : vrel φ a v) : vrels φ a.cells v.cells.toList := by
  cases a with
  | agg cs => simp only [vrel] at h; obtain ⟨xs, rfl, k⟩ := h; simpa [AV.cells, Value.cells] using k
  | tup cs => have h' := h; simp only [vrel] at h; obtain ⟨xs, rfl, k⟩ := h; simpa [AV.cells, Value.cells] using vrels_cons h' vrels_nil
  | func _ _ _ => have h' := h; simp only [vrel] at h; obtain ⟨_, _, rfl, _⟩ := h; simpa [AV.cells, Value.cells] using vrels_cons h' vrels_nil
  | iface _ _ => have h' := h; simp only [vrel] at h; obtain ⟨_, rfl, _⟩ := h; simpa [AV.cells, Value.cells] using vrels_cons h' vrels_nil
  | str _ => have h' := h; simp only [vrel] at h; obtain ⟨_, rfl, _⟩ := h; simpa [AV.cells, Value.cells] using vrels_cons h' vrels_nil
  | ptr _ _ => have h' := h; simp only [vrel] at h; obtain ⟨_, _, rfl⟩ := h; simpa [AV.cells, Value.cells] using vrels_cons h' vrels_nil
  | slice _ _ _ _ => have h' := h; simp only [vrel] at h; obtain ⟨_, _, _, rfl, _⟩ := h; simpa [AV.cells, Value.cells] using vrels_cons h' vrels_nil
  | emp => have h' := h; simp only [vrel] at h; obtain ⟨_, _, rfl⟩ := h; simpa [AV.cells, Value.cells] using vrels_cons h' vrels_nil
  | map _ => have h' := h; simp only [vrel] at h; obtain ⟨_, _, rfl⟩ := h; simpa [AV.cells, Value.cells] using vrels_cons h' vrels_nil
  | rsl _ _ _ => have h' := h; simp only [vrel] at h; obtain ⟨_, _, _, _, _, _, rfl, _⟩ := h; simpa [AV.cells, Value.cells] using vrels_cons h' vrels_nil
  | rptr _ _ => have h' := h; simp only [vrel] at h; obtain ⟨_, _, _, _, _, rfl, _⟩ := h; simpa [AV.cells, Value.cells] using vrels_cons h' vrels_nil
  | _ => have h' := h; simp only [vrel] at h; subst h; simpa [AV.cells, Value.cells] using vrels_cons h' vrels_nil
theorem vrel_one [Val] {φ : Phi} {a : AV} {v : Value} (h : vrel φ a v) (ha : a.one = true) : v.oneCell' = true := by
  cases a with
  | agg cs => simp [AV.one] at ha
  | tup cs => simp [AV.one] at ha
  | func _ _ _ => simp only [vrel] at h; obtain ⟨_, _, rfl, _⟩ := h; rfl
  | iface _ _ => simp only [vrel] at h; obtain ⟨_, rfl, _⟩ := h; rfl
  | str _ => simp only [vrel] at h; obtain ⟨_, rfl, _⟩ := h; rfl
  | ptr _ _ => simp only [vrel] at h; obtain ⟨_, _, rfl⟩ := h; rfl
  | slice _ _ _ _ => simp only [vrel] at h; obtain ⟨_, _, _, rfl, _⟩ := h; rfl
  | emp => simp only [vrel] at h; obtain ⟨_, _, rfl⟩ := h; rfl
  | map _ => simp only [vrel] at h; obtain ⟨_, _, rfl⟩ := h; rfl
  | rsl _ _ _ => simp only [vrel] at h; obtain ⟨_, _, _, _, _, _, rfl, _⟩ := h; rfl
  | rptr _ _ => simp only [vrel] at h; obtain ⟨_, _, _, _, _, rfl, _⟩ := h; rfl
  | _ => simp only [vrel] at h; subst h; rfl

/-! trees -/
theorem nbeq (a b : Nat) : Nat.beq a b = decide (a = b) := by
  rw [Bool.eq_iff_iff]; simp
theorem nble (a b : Nat) : Nat.ble a b = decide (a ≤ b) := by
  rw [Bool.eq_iff_iff]; simp
theorem nblt (a b : Nat) : Nat.blt a b = decide (a < b) := by
  rw [Bool.eq_iff_iff]; simp [Nat.blt]; omega
theorem cond_dec {α : Type} (p : Prop) [Decidable p] (x y : α) : (bif decide p then x else y) = if p then x else y := by
  by_cases h : p <;> simp [h]
theorem half_step {β : Type} (z l r : Nat → β) (n : Nat) : Nat.rec (motive := fun _ => β) (z 0) (fun m _ => Bool.rec (motive := fun _ => β) (l (Nat.div m 2)) (r (Nat.div m 2)) (Nat.beq (Nat.mod m 2) 1)) n = if n = 0 then z 0 else if n % 2 = 1 then l (n / 2) else r (n / 2 - 1) := by
  cases n with
  | zero => rfl
  | succ m =>
    show Bool.rec (motive := fun _ => β) (l (m / 2)) (r (m / 2)) (Nat.beq (m % 2) 1) = _
    rw [if_neg (by omega), nbeq]
    by_cases h : m % 2 = 1
    · rw [if_neg (by omega), decide_eq_true h]
      show r (m / 2) = _
      congr 1; omega
    · rw [if_pos (by omega), decide_eq_false h]
      show l (m / 2) = _
      congr 1; omega
theorem Tr.get_leaf {α : Type} (n : Nat) : (Tr.leaf : Tr α).get n = none := rfl
theorem Tr.get_node {α : Type} (l r : Tr α) (v : Option α) (n : Nat) : (Tr.node l v r).get n = if n = 0 then v else if n % 2 = 1 then l.get (n / 2) else r.get (n / 2 - 1) :=
  half_step (fun _ => v) l.get r.get n
theorem Tr.set_zero {α : Type} (t : Tr α) (n : Nat) (x : α) : Tr.set 0 t n x = t := rfl
theorem Tr.set_leaf {α : Type} (f n : Nat) (x : α) : Tr.set (f + 1) .leaf n x = if n = 0 then .node .leaf (some x) .leaf else if n % 2 = 1 then .node (Tr.set f .leaf (n / 2) x) none .leaf else .node .leaf none (Tr.set f .leaf (n / 2 - 1) x) :=
  half_step (fun _ => Tr.node .leaf (some x) .leaf) (fun k => .node (Tr.set f .leaf k x) none .leaf) (fun k => .node .leaf none (Tr.set f .leaf k x)) n
theorem Tr.set_node {α : Type} (f n : Nat) (x : α) (l r : Tr α) (v : Option α) : Tr.set (f + 1) (.node l v r) n x = if n = 0 then .node l (some x) r else if n % 2 = 1 then .node (Tr.set f l (n / 2) x) v r else .node l v (Tr.set f r (n / 2 - 1) x) :=
  half_step (fun _ => Tr.node l (some x) r) (fun k => .node (Tr.set f l k x) v r) (fun k => .node l v (Tr.set f r k x)) n
theorem Tr.del_leaf {α : Type} (n : Nat) : (Tr.leaf : Tr α).del n = .leaf := rfl
theorem Tr.del_node {α : Type} (n : Nat) (l r : Tr α) (v : Option α) : (Tr.node l v r).del n = if n = 0 then .node l none r else if n % 2 = 1 then .node (l.del (n / 2)) v r else .node l v (r.del (n / 2 - 1)) :=
  half_step (fun _ => Tr.node l none r) (fun k => .node (l.del k) v r) (fun k => .node l v (r.del k)) n
theorem Tr.get_set {α : Type} : ∀ (f : Nat) (t : Tr α) (n : Nat) (x : α) (m : Nat), n + 1 < 2 ^ f → (Tr.set f t n x).get m = if m = n then some x else t.get m
  | 0, t, n, x, m, h => by simp at h
  | f + 1, .leaf, n, x, m, h => by
    have h2 : n + 1 < 2 * 2 ^ f := by rw [Nat.pow_succ] at h; omega
    rw [Tr.set_leaf]
    by_cases hn : n = 0
    · subst hn; simp only [if_true, Tr.get_node, Tr.get_leaf]; split <;> simp_all
    · rw [if_neg hn]
      by_cases ho : n % 2 = 1
      · rw [if_pos ho, Tr.get_node, Tr.get_leaf]
        simp only [Tr.get_set f .leaf (n / 2) x (m / 2) (by omega), Tr.get_leaf]
        by_cases hm : m = n
        · subst hm; simp [hn, ho]
        · rw [if_neg hm]
          split
          · rfl
          · split
            · rw [if_neg (by omega)]
            · rfl
      · rw [if_neg ho, Tr.get_node, Tr.get_leaf]
        simp only [Tr.get_set f .leaf (n / 2 - 1) x (m / 2 - 1) (by omega), Tr.get_leaf]
        by_cases hm : m = n
        · subst hm; simp [hn, ho]
        · rw [if_neg hm]
          split
          · rfl
          · split
            · rfl
            · rw [if_neg (by omega)]
  | f + 1, .node l v r, n, x, m, h => by
    have h2 : n + 1 < 2 * 2 ^ f := by rw [Nat.pow_succ] at h; omega
    rw [Tr.set_node]
    by_cases hn : n = 0
    · subst hn; simp only [if_true, Tr.get_node]; split <;> simp_all
    · rw [if_neg hn]
      by_cases ho : n % 2 = 1
      · rw [if_pos ho, Tr.get_node, Tr.get_node]
        simp only [Tr.get_set f l (n / 2) x (m / 2) (by omega)]
        by_cases hm : m = n
        · subst hm; simp [hn, ho]
        · rw [if_neg hm]
          split
          · rfl
          · split
            · rw [if_neg (by omega)]
            · rfl
      · rw [if_neg ho, Tr.get_node, Tr.get_node]
        simp only [Tr.get_set f r (n / 2 - 1) x (m / 2 - 1) (by omega)]
        by_cases hm : m = n
        · subst hm; simp [hn, ho]
        · rw [if_neg hm]
          split
          · rfl
          · split
            · rfl
            · rw [if_neg (by omega)]
theorem Tr.get_del {α : Type} : ∀ (t : Tr α) (n m : Nat), (t.del n).get m = if m = n then none else t.get m
  | .leaf, n, m => by simp [Tr.del_leaf, Tr.get_leaf]
  | .node l v r, n, m => by
    rw [Tr.del_node]
    by_cases hn : n = 0
    · subst hn; simp only [if_true, Tr.get_node]; split <;> simp_all
    · rw [if_neg hn]
      by_cases ho : n % 2 = 1
      · rw [if_pos ho, Tr.get_node, Tr.get_node]
        simp only [Tr.get_del l (n / 2) (m / 2)]
        by_cases hm : m = n
        · subst hm; simp [hn, ho]
        · rw [if_neg hm]
          split
          · rfl
          · split
            · rw [if_neg (by omega)]
            · rfl
      · rw [if_neg ho, Tr.get_node, Tr.get_node]
        simp only [Tr.get_del r (n / 2 - 1) (m / 2 - 1)]
        by_cases hm : m = n
        · subst hm; simp [hn, ho]
        · rw [if_neg hm]
          split
          · rfl
          · split
            · rfl
            · rw [if_neg (by omega)]
end GX
