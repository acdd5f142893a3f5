/- GX: reasoning about runs: a piece of code on its own; parts of texts. -/
import Derived.Test.YtnlfcoojlgdgaaaDoorGXW4
namespace GX
noncomputable section
open Go
section
variable {X : X} {n : Nat} {ks : List Kt} {Q : Ex → Env → St → Prop} {l : L} {S : St} {c : Code}
/-- a piece of code that ends as code does, and what is known behind it -/
def Mid (I : L → St → Prop) (x : Ex) (e : Env) (S : St) : Prop := x = .nor ∧ ∃ l', Ag l' e ∧ I l' S
theorem W_cut (I : L → St → Prop) (h : W X n c [] (Mid I) l S) (hk : ∀ l' S', I l' S' → V X n .nor ks Q l' S') : W X n c ks Q l S := by
  unfold W at h ⊢
  intro e he
  obtain ⟨f, x, e', S', h1, rfl, l', h2, h3⟩ := h e he
  have := hk l' S' h3
  unfold V at this
  exact ⟨f, .nor, e', S', h1, this e' h2⟩
theorem V_mid {I : L → St → Prop} (h : I l S) : V X n .nor [] (Mid I) l S := by
  unfold V
  intro e he
  exact ⟨rfl, l, he, h⟩
end
theorem str_hi {X : X} {t : Nat} {k : IntKind} {s : List Nat} {hi : Nat} (h : hi ≤ s.length) : aslice X t (.str s) none (some (.int k ((hi : Nat) : Int))) none = some (.str (s.take hi)) := by
  unfold aslice bounds
  have : bound (.int k ((hi : Nat) : Int)) s.length = some hi := by
    show (bif Nat.ble hi s.length then some hi else none) = _
    rw [nble, decide_eq_true h]; rfl
  dsimp only; rw [this]; rfl
theorem str_lo {X : X} {t : Nat} {k : IntKind} {s : List Nat} {lo : Nat} (h : lo ≤ s.length) : aslice X t (.str s) (some (.int k ((lo : Nat) : Int))) none none = some (.str (s.drop lo)) := by
  unfold aslice bounds
  have : bound (.int k ((lo : Nat) : Int)) s.length = some lo := by
    show (bif Nat.ble lo s.length then some lo else none) = _
    rw [nble, decide_eq_true h]; rfl
  dsimp only; rw [this]; dsimp only; rw [List.take_of_length_le (Nat.le_refl _)]
end
end GX
