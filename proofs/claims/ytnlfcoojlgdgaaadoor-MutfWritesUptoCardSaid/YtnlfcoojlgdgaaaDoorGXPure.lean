/- GX: the operations that leave memory alone. -/
import Derived.Test.YtnlfcoojlgdgaaaDoorGXSem
import Derived.Laws.StructEq
namespace GX
set_option maxHeartbeats 2000000
open Go

structure XOK [Val] (P : Program) (X : X) : Prop where
  ti : ∀ t i, X.ti t = some i → TIok P t i
  fn : ∀ f F, X.fn f = some F → P.funcs[f]? = some F
  gor : ∀ F ∈ P.funcs, F.name ≠ "runtime.NumGoroutine"
  mixed : P.follows .mixedOrders = true
  eqs : ∀ t, X.eqs t = true → P.stoodInHeld t = false ∧ P.eqGuardType P.depth t = false

/-! numbers -/
theorem lim_spec (k : IntKind) : (lim k : Int) = if k.signed then (2 ^ (k.bits - 1) : Int) else (2 ^ k.bits : Int) := by cases k <;> rfl
theorem wrap_in (k : IntKind) (n : Int) (h1 : k.signed = true → -(lim k : Int) ≤ n) (h2 : n < lim k) (h3 : k.signed = false → 0 ≤ n) : k.wrap n = n := by
  unfold IntKind.wrap
  cases k <;> simp only [IntKind.bits, IntKind.signed, lim, Bool.true_and, Bool.false_and, Bool.false_eq_true, if_false, forall_const] at *
  case i8 => split <;> rename_i h <;> simp at h <;> omega
  case i16 => split <;> rename_i h <;> simp at h <;> omega
  case i32 => split <;> rename_i h <;> simp at h <;> omega
  case i64 => split <;> rename_i h <;> simp at h <;> omega
  all_goals omega
theorem wrp_eq (k : IntKind) (n : Int) : wrp k n = k.wrap n := by
  cases n with
  | ofNat m =>
    simp only [wrp, nblt, cond_dec]
    split
    · rename_i h
      exact (wrap_in k _ (fun _ => by have : (0 : Int) ≤ Int.ofNat m := Int.natCast_nonneg m; omega) (by have : (Int.ofNat m) = (m : Int) := rfl; omega) (fun _ => Int.natCast_nonneg m)).symm
    · rfl
  | negSucc m =>
    simp only [wrp]
    cases hs : k.signed with
    | false => simp
    | true =>
      simp only [Bool.true_and, nblt, cond_dec]
      split
      · rename_i h
        exact (wrap_in k _ (fun _ => by omega) (by omega) (fun h => by rw [hs] at h; cases h)).symm
      · rfl
theorem ieq_eq (a b : Int) : ieq a b = (a == b) := by
  rw [Bool.eq_iff_iff, beq_iff_eq]
  cases a <;> cases b <;> simp [ieq, nbeq] <;> omega
theorem ilt_eq (a b : Int) : ilt a b = decide (a < b) := by
  cases a <;> cases b <;> simp [ilt, nblt] <;> omega
theorem ibits_and (k : IntKind) (a b : Int) : ibits k Nat.land a b = k.wrap ((BitVec.ofInt k.bits a &&& BitVec.ofInt k.bits b).toNat : Nat) := by
  simp only [ibits, BitVec.toNat_and]; rfl
theorem ibits_or (k : IntKind) (a b : Int) : ibits k Nat.lor a b = k.wrap ((BitVec.ofInt k.bits a ||| BitVec.ofInt k.bits b).toNat : Nat) := by
  simp only [ibits, BitVec.toNat_or]; rfl
theorem ibits_xor (k : IntKind) (a b : Int) : ibits k Nat.xor a b = k.wrap ((BitVec.ofInt k.bits a ^^^ BitVec.ofInt k.bits b).toNat : Nat) := by
  simp only [ibits, BitVec.toNat_xor]; rfl

/-! strings -/
theorem bytes_toList (b : ByteArray) : bytes b = b.toList.map (·.toNat) := by rw [bytes, ByteArray.toList_eq]
theorem seq_map (x y : List UInt8) : seq (x.map (·.toNat)) (y.map (·.toNat)) = (x == y) := by
  induction x generalizing y with
  | nil => cases y <;> simp [seq]
  | cons a x ih =>
    cases y with
    | nil => simp [seq]
    | cons b y =>
      simp only [List.map_cons, seq, nbeq, cond_dec, ih]
      by_cases h : a = b
      · subst h; simp
      · have : a.toNat ≠ b.toNat := fun e => h (UInt8.toNat_inj.1 e)
        simp [h, this]
theorem slt_map (x y : List UInt8) : slt (x.map (·.toNat)) (y.map (·.toNat)) = Op.bytesLess x y := by
  induction x generalizing y with
  | nil => cases y <;> simp [slt, Op.bytesLess]
  | cons a x ih =>
    cases y with
    | nil => simp [slt, Op.bytesLess]
    | cons b y =>
      simp only [List.map_cons, slt, nbeq, nblt, cond_dec, ih, Op.bytesLess]
      by_cases h : a < b
      · have h' : a.toNat < b.toNat := UInt8.lt_iff_toNat_lt.1 h
        simp [h, h']
      · have h' : ¬ a.toNat < b.toNat := fun e => h (UInt8.lt_iff_toNat_lt.2 e)
        by_cases e : a = b
        · subst e; simp
        · have : a.toNat ≠ b.toNat := fun q => e (UInt8.toNat_inj.1 q)
          simp [h, h', this, e]
theorem bytes_inj {a b : ByteArray} (h : bytes a = bytes b) : a = b := by
  have : a.data.toList = b.data.toList := by
    unfold bytes at h
    exact (List.map_inj_right (fun x y e => UInt8.toNat_inj.1 e)).1 h
  exact ByteArray.ext (Array.toList_inj.1 this)
theorem bytes_length (b : ByteArray) : (bytes b).length = b.size := by simp [bytes]
theorem bytes_append (a b : ByteArray) : bytes (a ++ b) = bytes a ++ bytes b := by
  simp [bytes]
theorem sbin_ok [Val] {P : Program} {φ : Phi} {op : BinOp} {s s' : List Nat} {a b : ByteArray} {r : AV} (ha : bytes a = s) (hb : bytes b = s') (h : sbin op s s' = some r) :
    ∃ z, (∀ w, (Op.stringOp op a b).run P w = .ok z w) ∧ vrel φ r z := by
  subst ha; subst hb
  have e1 : seq (bytes a) (bytes b) = (a.toList == b.toList) := by rw [bytes_toList, bytes_toList, seq_map]
  have e2 : slt (bytes a) (bytes b) = Op.bytesLess a.toList b.toList := by rw [bytes_toList, bytes_toList, slt_map]
  cases op <;> simp only [sbin, e1, e2] at h <;> try (simp at h; done)
  case add =>
    simp only [nblt, cond_dec] at h
    split at h
    · rename_i hl
      simp at h; subst h
      refine ⟨.string (a ++ b), fun w => ?_, _, rfl, bytes_append a b⟩
      rw [bytes_length, bytes_length] at hl
      simp only [Op.stringOp]
      rw [if_neg]; · rfl
      · show ¬ ((a.size + b.size : Nat) : Int) > IntKind.i64.max
        have : IntKind.i64.max = 9223372036854775807 := rfl
        omega
    · simp at h
  all_goals (simp at h; subst h; exact ⟨_, fun w => rfl, by simp [vrel]⟩)

/-! equality -/
theorem run_part [Val] {P : Program} {X : X} (hX : XOK P X) {φ : Phi} {t : Nat} {cs : List AV} {xs : Array Value} (hr : vrels φ cs xs.toList) {off : Nat} {a : AV} (h : getPart X t cs off = some a) :
    ∃ v, (∀ w, (part t xs off).run P w = .ok v w) ∧ vrel φ a v := by
  unfold getPart at h
  split at h
  · simp at h
  · rename_i i hi
    have ti := hX.ti _ _ hi
    have agg : aggD i.desc = true → some (AV.agg ((cs.drop off).take i.size)) = some a → ∃ v, (∀ w, (part t xs off).run P w = .ok v w) ∧ vrel φ a v := by
      intro hd h
      simp at h; subst h
      refine ⟨.agg (xs.extract off (off + i.size)), fun w => ?_, _, rfl, ?_⟩
      · simp [part, ti.run_isAgg, hd, ti.run_size]
      · have := vrels_take i.size (vrels_drop off hr)
        simpa [Array.toList_extract, List.extract] using this
    cases hd : i.desc with
    | struct fs => rw [hd] at h; exact agg (by simp [hd, aggD]) h
    | array k e => rw [hd] at h; exact agg (by simp [hd, aggD]) h
    | _ =>
      rw [hd] at h
      obtain ⟨v, e, hv⟩ := vrels_get hr off a h
      refine ⟨v, fun w => ?_, hv⟩
      have e' : xs[off]? = some v := by simpa using e
      simp [part, ti.run_isAgg, hd, aggD, e']
mutual
theorem aeq_ok [Val] {P : Program} {X : X} (hX : XOK P X) {φ : Phi} : ∀ (d t : Nat) (x y : AV) {b : Bool} {u v : Value}, aeq X d t x y = some b → vrel φ x u → vrel φ y v →
    ∀ D, d ≤ D → ∀ w, (Op.equalIn D t u v).run P w = .ok b w
  | 0, _, _, _, _, _, _, h, _, _ => by simp [aeq] at h
  | d + 1, t, x, y, b, u, v, h, hx, hy => by
    intro D hD w
    obtain ⟨D, rfl⟩ : ∃ E, D = E + 1 := ⟨D - 1, by omega⟩
    unfold aeq at h
    split at h
    · simp at h
    · rename_i i hi
      have ti := hX.ti _ _ hi
      split at h
      case h_23 => simp at h
      case h_22 fs xs ys hd =>
        simp only [vrel] at hx hy
        obtain ⟨us, rfl, hu⟩ := hx
        obtain ⟨vs, rfl, hv⟩ := hy
        cases he : X.eqs t with
        | false => simp [he] at h
        | true =>
          simp only [he, cond_true] at h
          have hf : P.fieldsOf t = fs := by simp [Program.fieldsOf, ti.und, hd]
          rw [run_equalIn_struct w D t us vs (by rw [hf, ti.und, hd]) (hX.eqs t he).1, hf]
          exact aeqs_ok hX d fs.toList xs ys h hu hv D (by omega) w
      case h_1 a c hd =>
        simp only [vrel] at hx hy; subst hx; subst hy; simp at h; subst h
        simp [Op.equalIn, underlying, ti.und, hd]
      case h_2 hd =>
        simp only [vrel] at hx hy; subst hx; subst hy
        rw [cond_dec] at h
        split at h
        · rename_i hk; simp at h; subst h
          simp [Op.equalIn, underlying, ti.und, hd, hk, ieq_eq]
        · simp at h
      case h_3 hd =>
        simp only [vrel] at hx hy
        obtain ⟨a, rfl, rfl⟩ := hx
        obtain ⟨c, rfl, rfl⟩ := hy
        simp at h; subst h
        simp [Op.equalIn, underlying, ti.und, hd, bytes_toList, seq_map, beq_toListBytes]
      all_goals
        rename_i hd
        simp only [vrel] at hx hy
        first | subst hx | (obtain ⟨_, _, rfl, _⟩ := hx) | (obtain ⟨_, _, rfl⟩ := hx) | (obtain ⟨_, _, _, rfl, _⟩ := hx) | (obtain ⟨_, _, _, _, _, rfl, _⟩ := hx) | (obtain ⟨_, _, _, _, _, _, rfl, _⟩ := hx)
        first | subst hy | (obtain ⟨_, _, rfl, _⟩ := hy) | (obtain ⟨_, _, rfl⟩ := hy) | (obtain ⟨_, _, _, rfl, _⟩ := hy) | (obtain ⟨_, _, _, _, _, rfl, _⟩ := hy) | (obtain ⟨_, _, _, _, _, _, rfl, _⟩ := hy)
        simp at h
        subst h
        simp [Op.equalIn, underlying, ti.und, hd]
theorem aeqs_ok [Val] {P : Program} {X : X} (hX : XOK P X) {φ : Phi} : ∀ (d : Nat) (fs : List Field) (xs ys : List AV) {b : Bool} {us vs : Array Value}, aeqs X d fs xs ys = some b → vrels φ xs us.toList → vrels φ ys vs.toList →
    ∀ D, d ≤ D → ∀ w, (Op.eqFields D us vs fs).run P w = .ok b w
  | d, [], _, _, b, _, _, h, _, _ => by intro D _ w; cases d <;> simp [aeqs] at h <;> subst h <;> rfl
  | 0, f :: fs, _, _, _, _, _, h, _, _ => by simp [aeqs] at h
  | d + 1, f :: fs, xs, ys, b, us, vs, h, hx, hy => by
    intro D hD w
    unfold aeqs at h
    cases hb : isBlank f.name with
    | true => simp [hb] at h
    | false =>
      simp only [hb, cond_false] at h
      split at h
      · rename_i a c ha hc
        obtain ⟨ua, ra, va⟩ := run_part hX hx ha
        obtain ⟨uc, rc, vc⟩ := run_part hX hy hc
        have hn : f.name ≠ "_" := by simpa [isBlank] using hb
        simp only [Op.eqFields, hn, ne_eq, not_false_eq_true, if_true, Sem.run_bind, ra, rc, Result.andThen_ok]
        split at h
        · rename_i e
          rw [aeq_ok hX d f.type a c e va vc D (by omega) w]
          exact aeqs_ok hX d fs xs ys h hx hy D (by omega) w
        · rename_i e
          simp at h; subst h
          rw [aeq_ok hX d f.type a c e va vc D (by omega) w]
          rfl
        · simp at h
      · simp at h
end
end GX
