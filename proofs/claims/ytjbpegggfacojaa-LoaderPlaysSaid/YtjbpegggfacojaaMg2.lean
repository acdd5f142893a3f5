/- What the row leans on, part 2: texts one behind the other. No condition. -/
import Derived.Test.YtjbpegggfacojaaMg1
import Derived.Laws.StructEq
/- GX: the operations that leave memory alone. -/


namespace GX
set_option maxHeartbeats 2000000
open Go

structure XOK [Val] (P : Program) (X : X) : Prop where
  ti : ∀ t i, X.ti t = some i → TIok P t i
  fn : ∀ f F, X.fn f = some F → P.funcs[f]? = some F
  gor : ∀ F ∈ P.funcs, F.name ≠ "runtime.NumGoroutine"
  mixed : P.follows .mixedOrders = true
  eqs : ∀ t, X.eqs t = true → P.stoodInHeld t = false ∧ P.eqGuardType P.depth t = false

/-! numbers -/
theorem lim_spec (k : IntKind) : (lim k : Int) = if k.signed then (2 ^ (k.bits - 1) : Int) else (2 ^ k.bits : Int) := by cases k <;> rfl
theorem wrap_in (k : IntKind) (n : Int) (h1 : k.signed = true → -(lim k : Int) ≤ n) (h2 : n < lim k) (h3 : k.signed = false → 0 ≤ n) : k.wrap n = n := by
  unfold IntKind.wrap
  cases k <;> simp only [IntKind.bits, IntKind.signed, lim, Bool.true_and, Bool.false_and, Bool.false_eq_true, if_false, forall_const] at *
  case i8 => split <;> rename_i h <;> simp at h <;> omega
  case i16 => split <;> rename_i h <;> simp at h <;> omega
  case i32 => split <;> rename_i h <;> simp at h <;> omega
  case i64 => split <;> rename_i h <;> simp at h <;> omega
  all_goals omega
theorem wrp_eq (k : IntKind) (n : Int) : wrp k n = k.wrap n := by
  cases n with
  | ofNat m =>
    simp only [wrp, nblt, cond_dec]
    split
    · rename_i h
      exact (wrap_in k _ (fun _ => by have : (0 : Int) ≤ Int.ofNat m := Int.natCast_nonneg m; omega) (by have : (Int.ofNat m) = (m : Int) := rfl; omega) (fun _ => Int.natCast_nonneg m)).symm
    · rfl
  | negSucc m =>
    simp only [wrp]
    cases hs : k.signed with
    | false => simp
    | true =>
      simp only [Bool.true_and, nblt, cond_dec]
      split
      · rename_i h
        exact (wrap_in k _ (fun _ => by omega) (by omega) (fun h => by rw [hs] at h; cases h)).symm
      · rfl
theorem ieq_eq (a b : Int) : ieq a b = (a == b) := by
  rw [Bool.eq_iff_iff, beq_iff_eq]
  cases a <;> cases b <;> simp [ieq, nbeq] <;> omega
theorem ilt_eq (a b : Int) : ilt a b = decide (a < b) := by
  cases a <;> cases b <;> simp [ilt, nblt] <;> omega
theorem ibits_and (k : IntKind) (a b : Int) : ibits k Nat.land a b = k.wrap ((BitVec.ofInt k.bits a &&& BitVec.ofInt k.bits b).toNat : Nat) := by
  simp only [ibits, BitVec.toNat_and]; rfl
theorem ibits_or (k : IntKind) (a b : Int) : ibits k Nat.lor a b = k.wrap ((BitVec.ofInt k.bits a ||| BitVec.ofInt k.bits b).toNat : Nat) := by
  simp only [ibits, BitVec.toNat_or]; rfl
theorem ibits_xor (k : IntKind) (a b : Int) : ibits k Nat.xor a b = k.wrap ((BitVec.ofInt k.bits a ^^^ BitVec.ofInt k.bits b).toNat : Nat) := by
  simp only [ibits, BitVec.toNat_xor]; rfl

/-! strings -/
theorem bytes_toList (b : ByteArray) : bytes b = b.toList.map (·.toNat) := by rw [bytes, ByteArray.toList_eq]
theorem seq_map (x y : List UInt8) : seq (x.map (·.toNat)) (y.map (·.toNat)) = (x == y) := by
  induction x generalizing y with
  | nil => cases y <;> simp [seq]
  | cons a x ih =>
    cases y with
    | nil => simp [seq]
    | cons b y =>
      simp only [List.map_cons, seq, nbeq, cond_dec, ih]
      by_cases h : a = b
      · subst h; simp
      · have : a.toNat ≠ b.toNat := fun e => h (UInt8.toNat_inj.1 e)
        simp [h, this]
theorem slt_map (x y : List UInt8) : slt (x.map (·.toNat)) (y.map (·.toNat)) = Op.bytesLess x y := by
  induction x generalizing y with
  | nil => cases y <;> simp [slt, Op.bytesLess]
  | cons a x ih =>
    cases y with
    | nil => simp [slt, Op.bytesLess]
    | cons b y =>
      simp only [List.map_cons, slt, nbeq, nblt, cond_dec, ih, Op.bytesLess]
      by_cases h : a < b
      · have h' : a.toNat < b.toNat := UInt8.lt_iff_toNat_lt.1 h
        simp [h, h']
      · have h' : ¬ a.toNat < b.toNat := fun e => h (UInt8.lt_iff_toNat_lt.2 e)
        by_cases e : a = b
        · subst e; simp
        · have : a.toNat ≠ b.toNat := fun q => e (UInt8.toNat_inj.1 q)
          simp [h, h', this, e]
theorem bytes_inj {a b : ByteArray} (h : bytes a = bytes b) : a = b := by
  have : a.data.toList = b.data.toList := by
    unfold bytes at h
    exact (List.map_inj_right (fun x y e => UInt8.toNat_inj.1 e)).1 h
  exact ByteArray.ext (Array.toList_inj.1 this)
theorem bytes_length (b : ByteArray) : (bytes b).length = b.size := by simp [bytes]
theorem bytes_append (a b : ByteArray) : bytes (a ++ b) = bytes a ++ bytes b := by
  simp [bytes]
theorem sbin_ok [Val] {P : Program} {φ : Phi} {op : BinOp} {s s' : List Nat} {a b : ByteArray} {r : AV} (ha : bytes a = s) (hb : bytes b = s') (h : sbin op s s' = some r) :
    ∃ z, (∀ w, (Op.stringOp op a b).run P w = .ok z w) ∧ vrel φ r z := by
  subst ha; subst hb
  have e1 : seq (bytes a) (bytes b) = (a.toList == b.toList) := by rw [bytes_toList, bytes_toList, seq_map]
  have e2 : slt (bytes a) (bytes b) = Op.bytesLess a.toList b.toList := by rw [bytes_toList, bytes_toList, slt_map]
  cases op <;> simp only [sbin, e1, e2] at h <;> try (simp at h; done)
  case add =>
    simp only [nblt, cond_dec] at h
    split at h
    · rename_i hl
      simp at h; subst h
      refine ⟨.string (a ++ b), fun w => ?_, _, rfl, bytes_append a b⟩
      rw [bytes_length, bytes_length] at hl
      simp only [Op.stringOp]
      rw [if_neg]; · rfl
      · show ¬ ((a.size + b.size : Nat) : Int) > IntKind.i64.max
        have : IntKind.i64.max = 9223372036854775807 := rfl
        omega
    · simp at h
  all_goals (simp at h; subst h; exact ⟨_, fun w => rfl, by simp [vrel]⟩)

/-! equality -/
theorem run_part [Val] {P : Program} {X : X} (hX : XOK P X) {φ : Phi} {t : Nat} {cs : List AV} {xs : Array Value} (hr : vrels φ cs xs.toList) {off : Nat} {a : AV} (h : getPart X t cs off = some a) :
    ∃ v, (∀ w, (part t xs off).run P w = .ok v w) ∧ vrel φ a v := by
  unfold getPart at h
  split at h
  · simp at h
  · rename_i i hi
    have ti := hX.ti _ _ hi
    have agg : aggD i.desc = true → some (AV.agg ((cs.drop off).take i.size)) = some a → ∃ v, (∀ w, (part t xs off).run P w = .ok v w) ∧ vrel φ a v := by
      intro hd h
      simp at h; subst h
      refine ⟨.agg (xs.extract off (off + i.size)), fun w => ?_, _, rfl, ?_⟩
      · simp [part, ti.run_isAgg, hd, ti.run_size]
      · have := vrels_take i.size (vrels_drop off hr)
        simpa [Array.toList_extract, List.extract] using this
    cases hd : i.desc with
    | struct fs => rw [hd] at h; exact agg (by simp [hd, aggD]) h
    | array k e => rw [hd] at h; exact agg (by simp [hd, aggD]) h
    | _ =>
      rw [hd] at h
      obtain ⟨v, e, hv⟩ := vrels_get hr off a h
      refine ⟨v, fun w => ?_, hv⟩
      have e' : xs[off]? = some v := by simpa using e
      simp [part, ti.run_isAgg, hd, aggD, e']
mutual
theorem aeq_ok [Val] {P : Program} {X : X} (hX : XOK P X) {φ : Phi} : ∀ (d t : Nat) (x y : AV) {b : Bool} {u v : Value}, aeq X d t x y = some b → vrel φ x u → vrel φ y v →
    ∀ D, d ≤ D → ∀ w, (Op.equalIn D t u v).run P w = .ok b w
  | 0, _, _, _, _, _, _, h, _, _ => by simp [aeq] at h
  | d + 1, t, x, y, b, u, v, h, hx, hy => by
    intro D hD w
    obtain ⟨D, rfl⟩ : ∃ E, D = E + 1 := ⟨D - 1, by omega⟩
    unfold aeq at h
    split at h
    · simp at h
    · rename_i i hi
      have ti := hX.ti _ _ hi
      split at h
      case h_23 => simp at h
      case h_22 fs xs ys hd =>
        simp only [vrel] at hx hy
        obtain ⟨us, rfl, hu⟩ := hx
        obtain ⟨vs, rfl, hv⟩ := hy
        cases he : X.eqs t with
        | false => simp [he] at h
        | true =>
          simp only [he, cond_true] at h
          have hf : P.fieldsOf t = fs := by simp [Program.fieldsOf, ti.und, hd]
          rw [run_equalIn_struct w D t us vs (by rw [hf, ti.und, hd]) (hX.eqs t he).1, hf]
          exact aeqs_ok hX d fs.toList xs ys h hu hv D (by omega) w
      case h_1 a c hd =>
        simp only [vrel] at hx hy; subst hx; subst hy; simp at h; subst h
        simp [Op.equalIn, underlying, ti.und, hd]
      case h_2 hd =>
        simp only [vrel] at hx hy; subst hx; subst hy
        rw [cond_dec] at h
        split at h
        · rename_i hk; simp at h; subst h
          simp [Op.equalIn, underlying, ti.und, hd, hk, ieq_eq]
        · simp at h
      case h_3 hd =>
        simp only [vrel] at hx hy
        obtain ⟨a, rfl, rfl⟩ := hx
        obtain ⟨c, rfl, rfl⟩ := hy
        simp at h; subst h
        simp [Op.equalIn, underlying, ti.und, hd, bytes_toList, seq_map, beq_toListBytes]
      all_goals
        rename_i hd
        simp only [vrel] at hx hy
        first | subst hx | (obtain ⟨_, _, rfl, _⟩ := hx) | (obtain ⟨_, _, rfl⟩ := hx) | (obtain ⟨_, _, _, rfl, _⟩ := hx) | (obtain ⟨_, _, _, _, _, rfl, _⟩ := hx) | (obtain ⟨_, _, _, _, _, _, rfl, _⟩ := hx)
        first | subst hy | (obtain ⟨_, _, rfl, _⟩ := hy) | (obtain ⟨_, _, rfl⟩ := hy) | (obtain ⟨_, _, _, rfl, _⟩ := hy) | (obtain ⟨_, _, _, _, _, rfl, _⟩ := hy) | (obtain ⟨_, _, _, _, _, _, rfl, _⟩ := hy)
        simp at h
        subst h
        simp [Op.equalIn, underlying, ti.und, hd]
theorem aeqs_ok [Val] {P : Program} {X : X} (hX : XOK P X) {φ : Phi} : ∀ (d : Nat) (fs : List Field) (xs ys : List AV) {b : Bool} {us vs : Array Value}, aeqs X d fs xs ys = some b → vrels φ xs us.toList → vrels φ ys vs.toList →
    ∀ D, d ≤ D → ∀ w, (Op.eqFields D us vs fs).run P w = .ok b w
  | d, [], _, _, b, _, _, h, _, _ => by intro D _ w; cases d <;> simp [aeqs] at h <;> subst h <;> rfl
  | 0, f :: fs, _, _, _, _, _, h, _, _ => by simp [aeqs] at h
  | d + 1, f :: fs, xs, ys, b, us, vs, h, hx, hy => by
    intro D hD w
    unfold aeqs at h
    cases hb : isBlank f.name with
    | true => simp [hb] at h
    | false =>
      simp only [hb, cond_false] at h
      split at h
      · rename_i a c ha hc
        obtain ⟨ua, ra, va⟩ := run_part hX hx ha
        obtain ⟨uc, rc, vc⟩ := run_part hX hy hc
        have hn : f.name ≠ "_" := by simpa [isBlank] using hb
        simp only [Op.eqFields, hn, ne_eq, not_false_eq_true, if_true, Sem.run_bind, ra, rc, Result.andThen_ok]
        split at h
        · rename_i e
          rw [aeq_ok hX d f.type a c e va vc D (by omega) w]
          exact aeqs_ok hX d fs xs ys h hx hy D (by omega) w
        · rename_i e
          simp at h; subst h
          rw [aeq_ok hX d f.type a c e va vc D (by omega) w]
          rfl
        · simp at h
      · simp at h
end
end GX
/- GX: the operations that leave memory alone, one by one. -/

namespace GX
set_option maxHeartbeats 2000000
open Go
section
variable {P : Program} {X : X} {φ : Phi}

theorem ibin_ok [Val] {op : BinOp} {k : IntKind} {a b : Int} {r : AV} (h : ibin op k a b = some r) :
    ∃ z, (∀ w t, (Go.binOp op t (.int k a) (.int k b)).run P w = .ok z w) ∧ vrel φ r z := by
  cases op <;> simp only [ibin] at h <;> try (simp at h; done)
  case quo =>
    cases hb : ieq b 0 with
    | true => simp [hb] at h
    | false =>
      simp only [hb, cond_false] at h; simp at h; subst h
      have : ¬ b = 0 := by rw [ieq_eq] at hb; simpa using hb
      exact ⟨.int k (k.wrap (a.tdiv b)), fun w t => by simp [Go.binOp, Op.intDiv, this], by simp [vrel, wrp_eq]⟩
  case rem =>
    cases hb : ieq b 0 with
    | true => simp [hb] at h
    | false =>
      simp only [hb, cond_false] at h; simp at h; subst h
      have : ¬ b = 0 := by rw [ieq_eq] at hb; simpa using hb
      exact ⟨.int k (a.tmod b), fun w t => by simp [Go.binOp, Op.intDiv, this], by simp [vrel]⟩
  all_goals
    simp at h; subst h
    refine ⟨_, fun w t => by simp [Go.binOp, Op.intArith, Op.intBits, Op.intCmp]; rfl, ?_⟩
    simp [vrel, wrp_eq, ieq_eq, ilt_eq, ibits_and, ibits_or, ibits_xor, bne]
  all_goals
    rw [Bool.eq_iff_iff]; simp
theorem ishift_ok [Val] {op : BinOp} {k yk : IntKind} {a b : Int} {r : AV} (hop : op = .shl ∨ op = .shr) (h : ishift op k a b = some r) :
    ∃ z, (∀ w t, (Go.binOp op t (.int k a) (.int yk b)).run P w = .ok z w) ∧ vrel φ r z := by
  unfold ishift at h
  cases b with
  | negSucc y => simp at h
  | ofNat y =>
    have hm : (bif Nat.ble y k.bits then y else k.bits) = min y k.bits := by
      rw [nble, cond_dec]; split <;> omega
    simp only [hm] at h
    have hy : ¬ (Int.ofNat y < 0) := by simp
    rcases hop with rfl | rfl
    · simp at h; subst h
      refine ⟨_, fun w t => by simp only [Go.binOp, Op.shift, if_neg hy]; rfl, ?_⟩
      simp [vrel, wrp_eq]
    · simp at h; subst h
      refine ⟨_, fun w t => by simp only [Go.binOp, Op.shift, if_neg hy]; rfl, ?_⟩
      simp [vrel]

theorem run_eqGuard_plain {op : BinOp} {t : Nat} {x y : Operand} {a b : Value} (h : ¬ (op = .eql ∨ op = .neq)) (w : World) : (eqGuard op t x y a b).run P w = .ok () w := by
  cases op <;> first | rfl | simp at h
theorem run_eqGuard_int {op : BinOp} {t : Nat} {x y : Operand} {k : IntKind} {n : Int} {b : Value} (w : World) : (eqGuard op t x y (.int k n) b).run P w = .ok () w := by
  cases op <;> rfl
theorem run_eqGuard_string {op : BinOp} {t : Nat} {x y : Operand} {s : ByteArray} {b : Value} (w : World) : (eqGuard op t x y (.string s) b).run P w = .ok () w := by
  cases op <;> rfl

theorem aeq_guard [Val] (hX : XOK P X) {t : Nat} {a b : AV} {r : Bool} {u v : Value} (h : aeq X 10 t a b = some r) (ha : vrel φ a u) (hb : vrel φ b v) {op : BinOp} {x y : Operand} (w : World) :
    (eqGuard op t x y u v).run P w = .ok () w := by
  by_cases hop : op = .eql ∨ op = .neq
  case neg => exact run_eqGuard_plain hop w
  unfold aeq at h
  split at h
  · simp at h
  · rename_i i hi
    split at h
    case h_23 => simp at h
    case h_22 fs xs ys hd =>
      simp only [vrel] at ha hb
      obtain ⟨us, rfl, hu⟩ := ha
      obtain ⟨vs, rfl, hv⟩ := hb
      cases he : X.eqs t with
      | false => simp [he] at h
      | true =>
        have := (hX.eqs t he).2
        rcases hop with rfl | rfl <;> simp [eqGuard, this]
    all_goals
      simp only [vrel] at ha hb
      first | subst ha | (obtain ⟨_, rfl, _⟩ := ha) | (obtain ⟨_, _, rfl⟩ := ha) | (obtain ⟨_, _, rfl, _⟩ := ha) | (obtain ⟨_, _, _, rfl, _⟩ := ha) | (obtain ⟨_, _, _, _, _, rfl, _⟩ := ha) | (obtain ⟨_, _, _, _, _, _, rfl, _⟩ := ha)
      rcases hop with rfl | rfl <;> rfl

theorem abin_ok [Val] (hX : XOK P X) {op : BinOp} {t : Nat} {a b : AV} {r : AV} {u v : Value} {x y : Operand} (h : abin X op t a b = some r) (ha : vrel φ a u) (hb : vrel φ b v) :
    ∃ z, (∀ w, (do eqGuard op t x y u v; Go.binOp op t u v : Sem Value).run P w = .ok z w) ∧ vrel φ r z := by
  unfold abin at h
  split at h
  · rename_i k m k' m'
    simp only [vrel] at ha hb; subst ha; subst hb
    simp only [Sem.run_bind, run_eqGuard_int, Result.andThen_ok]
    split at h
    · obtain ⟨z, h1, h2⟩ := ishift_ok (P := P) (φ := φ) (yk := k') (.inl rfl) h; exact ⟨z, fun w => h1 w t, h2⟩
    · obtain ⟨z, h1, h2⟩ := ishift_ok (P := P) (φ := φ) (yk := k') (.inr rfl) h; exact ⟨z, fun w => h1 w t, h2⟩
    · rw [cond_dec] at h
      split at h
      · rename_i hk; subst hk
        obtain ⟨z, h1, h2⟩ := ibin_ok (P := P) (φ := φ) h; exact ⟨z, fun w => h1 w t, h2⟩
      · simp at h
  · simp only [vrel] at ha hb
    obtain ⟨s, rfl, e1⟩ := ha
    obtain ⟨s', rfl, e2⟩ := hb
    simp only [Sem.run_bind, run_eqGuard_string, Result.andThen_ok]
    obtain ⟨z, h1, h2⟩ := sbin_ok (P := P) (φ := φ) e1 e2 h
    refine ⟨z, fun w => ?_, h2⟩
    rw [← h1 w]
    cases op <;> rfl
  · rename_i hn1 hn2
    have key : ∀ q, aeq X 10 t a b = some q → (∀ w, (eqGuard op t x y u v).run P w = .ok () w) ∧ ∀ w, (Op.equal t u v).run P w = .ok q w := fun q hq =>
      ⟨fun w => aeq_guard hX hq ha hb w, fun w => aeq_ok hX 10 t a b hq ha hb Op.maxDepth (by decide) w⟩
    have shape : op = .eql ∨ op = .neq → ∀ q, aeq X 10 t a b = some q → Go.binOp op t u v = (do let r ← Op.equal t u v; pure (.bool (if op = .eql then r else !r))) := by
      intro hop q hq
      unfold aeq at hq
      split at hq
      · simp at hq
      · split at hq
        case h_23 => simp at hq
        case h_2 => exact absurd rfl (hn1 _ _ _ _ rfl)
        case h_3 => exact absurd rfl (hn2 _ _ rfl)
        all_goals
          simp only [vrel] at ha hb
          first | subst ha | (obtain ⟨_, rfl, _⟩ := ha) | (obtain ⟨_, _, rfl⟩ := ha) | (obtain ⟨_, _, rfl, _⟩ := ha) | (obtain ⟨_, _, _, rfl, _⟩ := ha) | (obtain ⟨_, _, _, _, _, rfl, _⟩ := ha) | (obtain ⟨_, _, _, _, _, _, rfl, _⟩ := ha)
          first | subst hb | (obtain ⟨_, rfl, _⟩ := hb) | (obtain ⟨_, _, rfl⟩ := hb) | (obtain ⟨_, _, rfl, _⟩ := hb) | (obtain ⟨_, _, _, rfl, _⟩ := hb) | (obtain ⟨_, _, _, _, _, rfl, _⟩ := hb) | (obtain ⟨_, _, _, _, _, _, rfl, _⟩ := hb)
          rcases hop with rfl | rfl <;> rfl
    split at h
    · split at h
      · rename_i q hq
        simp at h; subst h
        obtain ⟨k1, k2⟩ := key q hq
        refine ⟨.bool q, fun w => ?_, by simp [vrel]⟩
        rw [shape (.inl rfl) q hq]
        simp [k1, k2]
      · simp at h
    · split at h
      · rename_i q hq
        simp at h; subst h
        obtain ⟨k1, k2⟩ := key q hq
        refine ⟨.bool !q, fun w => ?_, by simp [vrel]⟩
        rw [shape (.inr rfl) q hq]
        simp [k1, k2]
      · simp at h
    · simp at h

theorem aun_ok [Val] {op : UnOp} {a r : AV} {u : Value} (h : aun op a = some r) (ha : vrel φ a u) : ∃ z, (∀ w, (Op.unary op u).run P w = .ok z w) ∧ vrel φ r z := by
  unfold aun at h
  split at h
  · simp at h; subst h; simp only [vrel] at ha; subst ha
    exact ⟨_, fun w => by simp [Op.unary, Op.intArith]; rfl, by simp [vrel, wrp_eq]⟩
  · simp at h; subst h; simp only [vrel] at ha; subst ha
    exact ⟨_, fun w => by simp only [Op.unary, Op.intBits]; rfl, by simp [vrel, ibits_xor]⟩
  · simp at h; subst h; simp only [vrel] at ha; subst ha
    exact ⟨_, fun w => by simp [Op.unary]; rfl, by simp [vrel]⟩
  · simp at h

/-! composites -/
theorem fill_ok [Val] {place : Nat → Option (Nat × Nat)} : ∀ {ps : List (Nat × AV)} {us : List (Nat × Value)} {cells cs : List AV} {vs : List Value}, prels φ ps us → vrels φ cells vs → afill place cells ps = some cs →
    ∃ xs : Array Value, Instr.fill place vs.toArray us = some xs ∧ vrels φ cs xs.toList
  | [], us, cells, cs, vs, h, hv, hf => by
    simp only [prels] at h; subst h; simp [afill] at hf; subst hf
    exact ⟨vs.toArray, by simp [Instr.fill], hv⟩
  | (i, a) :: ps, us, cells, cs, vs, h, hv, hf => by
    simp only [prels] at h
    obtain ⟨u, us, rfl, hu, ht⟩ := h
    simp only [afill] at hf
    split at hf
    · simp at hf
    · rename_i off size hp
      simp only [nbeq, nble] at hf
      by_cases hc : a.cells.length = size ∧ off + size ≤ cells.length
      · obtain ⟨h1, h2⟩ := hc
        simp only [h1, h2, decide_true, Bool.and_self, cond_true] at hf
        have hl := vrels_length (vrel_cells hu)
        have hl2 := vrels_length hv
        have hus : u.cells.size = size := by rw [← Array.length_toList]; omega
        have hput : (u.cells.zipIdx.foldl (fun cs (c, j) => cs.setIfInBounds (off + j) c) vs.toArray) = (lput vs off u.cells.toList).toArray := by
          rw [← Array.foldl_toList, Array.toList_zipIdx]
          have gen : ∀ (l : List Value) (k : Nat) (vs : List Value), off + k + l.length ≤ vs.length →
              ((l.zipIdx k).foldl (fun (cs : Array Value) (x : Value × Nat) => cs.setIfInBounds (off + x.2) x.1) vs.toArray) = (lput vs (off + k) l).toArray := by
            intro l
            induction l with
            | nil => intro k vs _; simp [lput_nil]
            | cons c l ih =>
              intro k vs hk
              simp only [List.length_cons] at hk
              rw [List.zipIdx_cons, List.foldl_cons, lput_cons _ _ _ _ (by omega)]
              have := ih (k + 1) (vs.set (off + k) c) (by simp; omega)
              simp only [Nat.add_assoc] at this ⊢
              simpa using this
          have := gen u.cells.toList 0 vs (by rw [← hl, ← hl2]; omega)
          simpa using this
        obtain ⟨xs, e1, e2⟩ := fill_ok ht (vrels_lput off hv (vrel_cells hu)) hf
        refine ⟨xs, ?_, e2⟩
        simp only [Instr.fill, hp]
        rw [if_neg]
        · rw [hput]; exact e1
        · simp only [hus]; simp; rw [← hl2]; exact h2
      · simp only [← Bool.decide_and] at hf
        rw [cond_dec, if_neg hc] at hf
        simp at hf
theorem places_ok [Val] (hX : XOK P X) : ∀ {fs : List Field} {ps : List (Nat × Nat)}, places X fs = some ps → fs.mapM (fun f => (P.info? f.type).map fun i => (f.offset, i.size)) = some ps
  | [], ps, h => by simp [places] at h; subst h; rfl
  | f :: fs, ps, h => by
    simp only [places] at h
    split at h
    · simp at h
    · rename_i i hi
      split at h
      · simp at h
      · rename_i l hl
        simp at h; subst h
        obtain ⟨j, e, e2, _⟩ := (hX.ti _ _ hi).info
        simp [List.mapM_cons, e, e2, places_ok hX hl]
theorem build_ok [Val] (hX : XOK P X) {t : Nat} {ps : List (Nat × AV)} {us : Array (Nat × Value)} {r : AV} (h : abuild X t ps = some r) (hp : prels φ ps us.toList) :
    ∃ z, (∀ w, (Instr.build t us).run P w = .ok z w) ∧ vrel φ r z := by
  unfold abuild at h
  split at h
  · simp at h
  · rename_i i hi
    have ti := hX.ti _ _ hi
    split at h
    · rename_i fs hd
      split at h
      · simp at h
      · rename_i pl hpl
        split at h
        · simp at h
        · rename_i cs hf
          simp at h; subst h
          obtain ⟨j, e1, e2, e3, z, e4, _, e5⟩ := ti.info
          obtain ⟨xs, f1, f2⟩ := fill_ok (place := fun j => pl[j]?) hp (e5 φ) hf
          refine ⟨.agg xs, fun w => run_build w t us xs ?_, xs, rfl, f2⟩
          have := places_ok hX hpl
          simp only [Program.built, e1, ti.und, hd, e4, this]
          simpa using f1
    · simp at h
end
end GX
/- GX: the operations that leave memory alone: slicing, addresses, conversions; all of them. -/

namespace GX
open Go
section
variable {P : Program} {X : X} {φ : Phi}

def orel [Val] (φ : Phi) (x : Option AV) (y : Option Value) : Prop := (x = none ∧ y = none) ∨ ∃ a v, x = some a ∧ y = some v ∧ vrel φ a v
theorem optOpd_rel [Val] {n : Nat} {e : Env} {a : Act} (r : erel φ n e a.tmps) {x : Option Operand} {v : Option AV} (h : optOpd e x = some v) : orel φ v (x.map a.eval) := by
  rcases optOpd_ok r h with ⟨rfl, rfl⟩ | ⟨y, u, rfl, rfl, k⟩
  · exact .inl ⟨rfl, rfl⟩
  · exact .inr ⟨u, _, rfl, rfl, k⟩
theorem bound_ok [Val] {x : AV} {u : Value} {y i : Nat} (h : bound x y = some i) (hx : vrel φ x u) {z : Nat} (hz : y ≤ z) (c : BoundsCode) (w : World) : (Instr.sliceBound u z c).run P w = .ok i w ∧ i ≤ y := by
  unfold bound at h
  split at h
  · rename_i k j
    rw [nble, cond_dec] at h
    split at h
    · simp at h; subst h
      simp only [vrel] at hx; subst hx
      refine ⟨?_, by assumption⟩
      simp only [Instr.sliceBound, asIntOf, Sem.run_bind, Sem.run_pure, Result.andThen_ok]
      rw [if_pos ⟨by simp, by simp; omega⟩]
      simp
    · simp at h
  · simp at h
/-- slicing without a third index -/
theorem bounds_ok [Val] {len lim l h : Nat} {lo hi : Option AV} {lo' hi' : Option Value} (hb : bounds len lim lo hi = some (l, h)) (hl : orel φ lo lo') (hh : orel φ hi hi') {isS : Bool} {cap : Nat} (hc : lim ≤ cap) (w : World) :
    (Instr.sliceBounds isS len cap lo' hi' none).run P w = .ok (l, h, cap) w ∧ l ≤ h ∧ (h ≤ lim ∨ h = len) := by
  unfold bounds at hb
  rcases hh with ⟨rfl, rfl⟩ | ⟨a, v, rfl, rfl, hv⟩
  · rcases hl with ⟨rfl, rfl⟩ | ⟨b, u, rfl, rfl, hu⟩
    · simp at hb; obtain ⟨rfl, rfl⟩ := hb
      simp [Instr.sliceBounds]
    · dsimp only at hb
      split at hb
      · simp at hb
      · rename_i l' hl'
        simp at hb; obtain ⟨rfl, rfl⟩ := hb
        have := fun c => (bound_ok (P := P) hl' hu (Nat.le_refl _) c w)
        simp [Instr.sliceBounds, this, (this .index).2]
  · dsimp only at hb
    split at hb
    · simp at hb
    · rename_i h' hh'
      have kh := fun c => (bound_ok (P := P) hh' hv hc c w)
      rcases hl with ⟨rfl, rfl⟩ | ⟨b, u, rfl, rfl, hu⟩
      · simp at hb; obtain ⟨rfl, rfl⟩ := hb
        simp [Instr.sliceBounds, kh, (kh .index).2]
      · dsimp only at hb
        split at hb
        · simp at hb
        · rename_i l' hl'
          simp at hb; obtain ⟨rfl, rfl⟩ := hb
          have kl := fun c => (bound_ok (P := P) hl' hu (Nat.le_refl _) c w)
          simp [Instr.sliceBounds, kh, kl, (kh .index).2, (kl .index).2]
/-- slicing with a third index -/
theorem bounds3_ok [Val] {len lim m l h : Nat} {lo hi : Option AV} {mx : AV} {lo' hi' : Option Value} {mx' : Value} (hm : bound mx lim = some m) (hsome : ∃ q, hi = some q) (hb : bounds len m lo hi = some (l, h)) (hl : orel φ lo lo') (hh : orel φ hi hi') (hx : vrel φ mx mx') {isS : Bool} {cap : Nat} (hc : lim ≤ cap) (w : World) :
    (Instr.sliceBounds isS len cap lo' hi' (some mx')).run P w = .ok (l, h, m) w ∧ l ≤ h ∧ h ≤ m ∧ m ≤ lim := by
  have km := fun c => (bound_ok (P := P) hm hx hc c w)
  unfold bounds at hb
  obtain ⟨q, rfl⟩ := hsome
  rcases hh with ⟨e, _⟩ | ⟨a, v, e, rfl, hv⟩
  · cases e
  · cases e
    dsimp only at hb
    split at hb
    · simp at hb
    · rename_i h' hh'
      have kh := fun c => (bound_ok (P := P) hh' hv (Nat.le_refl _) c w)
      rcases hl with ⟨rfl, rfl⟩ | ⟨b, u, rfl, rfl, hu⟩
      · simp at hb; obtain ⟨rfl, rfl⟩ := hb
        simp [Instr.sliceBounds, kh, km, (kh .index).2, (km .index).2]
      · dsimp only at hb
        split at hb
        · simp at hb
        · rename_i l' hl'
          simp at hb; obtain ⟨rfl, rfl⟩ := hb
          have kl := fun c => (bound_ok (P := P) hl' hu (Nat.le_refl _) c w)
          simp [Instr.sliceBounds, kh, kl, km, (kh .index).2, (kl .index).2, (km .index).2]

theorem add_plain (b o n : Nat) : (Addr.add ⟨b, o, none⟩ n) = ⟨b, o + n, none⟩ := by
  unfold Addr.add; split
  · rename_i h; simp [h]
  · rfl
theorem bytes_extract (s : ByteArray) (l h : Nat) : bytes (s.extract l h) = ((bytes s).take h).drop l := by
  simp only [bytes, ByteArray.data_extract, Array.toList_extract, List.extract_eq_take_drop, List.map_take, List.map_drop, List.drop_take]
theorem bounds_le {len lim l h : Nat} {lo hi : Option AV} (hb : bounds len lim lo hi = some (l, h)) (hlen : len ≤ lim) : l ≤ h ∧ h ≤ lim := by
  have bd : ∀ {x : AV} {y i : Nat}, bound x y = some i → i ≤ y := by
    intro x y i hx
    unfold bound at hx
    split at hx
    · rw [nble, cond_dec] at hx
      split at hx
      · cases hx; assumption
      · cases hx
    · cases hx
  unfold bounds at hb
  split at hb
  · split at hb
    · cases hb; omega
    · split at hb
      · cases hb
      · rename_i h1
        cases hb
        have := bd h1
        omega
  · split at hb
    · cases hb
    · rename_i h1
      have := bd h1
      split at hb
      · cases hb; omega
      · split at hb
        · cases hb
        · rename_i h2
          cases hb
          have := bd h2
          omega
theorem slice_ok [Val] (hX : XOK P X) {t : Nat} {x r : AV} {lo hi mx : Option AV} {u : Value} {lo' hi' mx' : Option Value} (h : aslice X t x lo hi mx = some r) (hx : vrel φ x u) (hl : orel φ lo lo') (hh : orel φ hi hi') (hm : orel φ mx mx')
    (hu : P.underlying t = some .string ∨ ∃ el, P.underlying t = some (.slice el) ∧ ∃ ei, X.ti el = some ei) (hs : (∀ s, x ≠ .str s) ∨ P.underlying t = some .string) (hs2 : (∃ s, x = .str s) ∨ P.underlying t ≠ some .string) :
    ∃ z, (∀ w, (Instr.slice t u lo' hi' mx').run P w = .ok z w) ∧ vrel φ r z := by
  have elem : (∀ s, x ≠ .str s) → ∃ el ei, P.underlying t = some (.slice el) ∧ X.ti el = some ei := by
    intro hn
    rcases hu with hu | ⟨el, hu, ei, hei⟩
    · rcases hs2 with ⟨s, rfl⟩ | hs2
      · exact absurd rfl (hn s)
      · exact absurd hu hs2
    · exact ⟨el, ei, hu, hei⟩
  unfold aslice at h
  cases x with
  | str s =>
    dsimp only at h
    have ht : P.underlying t = some .string := by
      rcases hs with hs | hs
      · exact absurd rfl (hs s)
      · exact hs
    cases mx with
    | some m => simp at h
    | none =>
      dsimp only at h
      split at h
      · simp at h
      · rename_i l h' hb
        simp at h; subst h
        rcases hm with ⟨_, rfl⟩ | ⟨_, _, e, _⟩
        case inr => cases e
        simp only [vrel] at hx
        obtain ⟨b, rfl, rfl⟩ := hx
        have k := fun w => bounds_ok (P := P) (isS := false) hb hl hh (Nat.le_refl _) w
        rw [bytes_length] at k
        refine ⟨.string (b.extract l h'), fun w => ?_, _, rfl, bytes_extract b l h'⟩
        simp [Instr.slice, underlying, ht, k]
  | nils =>
    dsimp only at h
    obtain ⟨el, ei, ht, hei⟩ := elem (by simp)
    have te := hX.ti _ _ hei
    cases mx with
    | some m => simp at h
    | none =>
      dsimp only at h
      split at h
      · simp at h
      · rename_i q hb
        obtain ⟨l, h'⟩ := q
        simp at h; subst h
        rcases hm with ⟨_, rfl⟩ | ⟨_, _, e, _⟩
        case inr => cases e
        simp only [vrel] at hx; subst hx
        have k := fun w => bounds_ok (P := P) (isS := true) hb hl hh (Nat.le_refl _) w
        have h0 := (k default).2
        refine ⟨.slice none 0 0, fun w => ?_, by simp [vrel]⟩
        simp [Instr.slice, underlying, ht, k, te.run_size]
        omega
  | emp =>
    dsimp only at h
    obtain ⟨el, ei, ht, hei⟩ := elem (by simp)
    have te := hX.ti _ _ hei
    cases mx with
    | some m => simp at h
    | none =>
      dsimp only at h
      split at h
      · simp at h
      · rename_i q hb
        obtain ⟨l, h'⟩ := q
        simp at h; subst h
        rcases hm with ⟨_, rfl⟩ | ⟨_, _, e, _⟩
        case inr => cases e
        simp only [vrel] at hx
        obtain ⟨a, c, rfl⟩ := hx
        have k := fun w => bounds_ok (P := P) (isS := true) (cap := c) hb hl hh (Nat.zero_le _) w
        have h0 := (k default).2
        refine ⟨.slice (some (if c = l then a else a.add (l * ei.size))) (h' - l) (c - l), fun w => ?_, ?_⟩
        · simp [Instr.slice, underlying, ht, k, te.run_size]
          split <;> rfl
        · simp only [vrel]
          exact ⟨_, c - l, by congr 1; omega⟩
  | slice b o len cap =>
    dsimp only at h
    obtain ⟨el, ei, ht, hei⟩ := elem (by simp)
    have te := hX.ti _ _ hei
    simp only [vrel] at hx
    obtain ⟨L, c, hL, rfl, hcap⟩ := hx
    split at h
    · simp at h
    · rename_i i hi
      have ti := hX.ti _ _ hi
      rw [ti.und] at ht
      simp only [Option.some.injEq] at ht
      rw [ht] at h
      dsimp only at h
      rw [hei] at h
      dsimp only at h
      have ht' : P.underlying t = some (.slice el) := by rw [ti.und, ht]
      cases cap with
      | ex k =>
        simp only [capOk] at hcap
        obtain ⟨rfl, hlk⟩ := hcap
        cases mx with
        | none =>
          dsimp only at h
          rcases hm with ⟨_, rfl⟩ | ⟨_, _, e, _⟩
          case inr => cases e
          split at h
          · simp at h
          · rename_i l h' hb
            simp at h; subst h
            have kb := fun w => bounds_ok (P := P) (isS := true) hb hl hh (Nat.le_refl _) w
            have h0 := (kb default).2
            refine ⟨.slice (some ⟨L.blk, L.base + (if c = l then o else o + l * ei.size), none⟩) (h' - l) (c - l), fun w => ?_, ?_⟩
            · simp [Instr.slice, underlying, ht', kb, te.run_size, add_plain]
              split <;> simp [Nat.add_assoc]
            · simp only [vrel]
              refine ⟨L, c - l, hL, by rw [nbeq, cond_dec], rfl, ?_⟩
              omega
        | some m =>
          dsimp only at h
          rcases hm with ⟨e, _⟩ | ⟨m', v, e, rfl, hv⟩
          · cases e
          · cases e
            split at h
            · simp at h
            · rename_i m0 hm0
              split at h
              · simp at h
              · split at h
                · simp at h
                · rename_i l h' hb
                  simp at h; subst h
                  have kb := fun w => bounds3_ok (P := P) (isS := true) hm0 ⟨_, rfl⟩ hb hl hh hv (Nat.le_refl _) w
                  have h0 := (kb default).2
                  refine ⟨.slice (some ⟨L.blk, L.base + (if m0 = l then o else o + l * ei.size), none⟩) (h' - l) (m0 - l), fun w => ?_, ?_⟩
                  · simp [Instr.slice, underlying, ht', kb, te.run_size, add_plain]
                    split <;> simp [Nat.add_assoc]
                  · simp only [vrel]
                    refine ⟨L, m0 - l, hL, by rw [nbeq, cond_dec], rfl, ?_⟩
                    omega
      | op z =>
        simp only [capOk] at hcap
        obtain ⟨hlc, htot, hclim⟩ := hcap
        cases mx with
        | none =>
          dsimp only at h
          rcases hm with ⟨_, rfl⟩ | ⟨_, _, e, _⟩
          case inr => cases e
          split at h
          · simp at h
          · rename_i l h' hb
            have kb := fun w => bounds_ok (P := P) (isS := true) (cap := c) hb hl hh hlc w
            have h0 := (kb default).2
            rw [nblt, nbeq, nbeq, ← Bool.decide_and, cond_dec] at h
            split at h
            · rename_i hc
              obtain ⟨h1, h2⟩ := hc
              simp at h; subst h
              refine ⟨.slice (some ⟨L.blk, L.base + (o + l * ei.size), none⟩) (h' - l) (c - l), fun w => ?_, ?_⟩
              · simp [Instr.slice, underlying, ht', kb, te.run_size, add_plain]
                rw [if_neg (by omega)]
                simp [Nat.add_assoc]
              · simp only [vrel]
                refine ⟨L, c - l, hL, rfl, by omega, ?_⟩
                subst h2
                rw [Nat.sub_mul]
                have : l * ei.size ≤ c * ei.size := Nat.mul_le_mul_right _ (by omega)
                omega
            · rw [cond_dec] at h
              split at h
              · simp at h; subst h
                refine ⟨.slice (some (if c = l then ⟨L.blk, L.base + o, none⟩ else (Addr.add ⟨L.blk, L.base + o, none⟩ (l * ei.size)))) (h' - l) (c - l), fun w => ?_, ?_⟩
                · simp [Instr.slice, underlying, ht', kb, te.run_size]
                  split <;> rfl
                · simp only [vrel]
                  exact ⟨_, c - l, by congr 1; omega⟩
              · simp at h
        | some m =>
          dsimp only at h
          rcases hm with ⟨e, _⟩ | ⟨m', v, e, rfl, hv⟩
          · cases e
          · cases e
            split at h
            · simp at h
            · rename_i m0 hm0
              split at h
              · simp at h
              · split at h
                · simp at h
                · rename_i l h' hb
                  simp at h; subst h
                  have kb := fun w => bounds3_ok (P := P) (isS := true) (cap := c) hm0 ⟨_, rfl⟩ hb hl hh hv hlc w
                  have h0 := (kb default).2
                  refine ⟨.slice (some ⟨L.blk, L.base + (if m0 = l then o else o + l * ei.size), none⟩) (h' - l) (m0 - l), fun w => ?_, ?_⟩
                  · simp [Instr.slice, underlying, ht', kb, te.run_size, add_plain]
                    split <;> simp [Nat.add_assoc]
                  · simp only [vrel]
                    refine ⟨L, m0 - l, hL, by rw [nbeq, cond_dec], rfl, ?_⟩
                    omega
  | rsl cs len sz =>
    dsimp only at h
    obtain ⟨el, ei, ht, hei⟩ := elem (by simp)
    have te := hX.ti _ _ hei
    simp only [vrel] at hx
    obtain ⟨g, off, c, ca, ty, fz, rfl, hlc, hcl, hro, hfit, hrel⟩ := hx
    cases mx with
    | some m => simp at h
    | none =>
      dsimp only at h
      split at h
      · simp at h
      · rename_i i hi
        have ti := hX.ti _ _ hi
        rw [ti.und] at ht
        simp only [Option.some.injEq] at ht
        rw [ht] at h
        dsimp only at h
        rw [hei] at h
        dsimp only at h
        have ht' : P.underlying t = some (.slice el) := by rw [ti.und, ht]
        rw [nbeq, cond_dec] at h
        split at h
        · rename_i hsz
          split at h
          · simp at h
          · rename_i l h' hb
            simp at h; subst h
            rcases hm with ⟨_, rfl⟩ | ⟨_, _, e, _⟩
            case inr => cases e
            have kb := fun w => bounds_ok (P := P) (isS := true) (cap := c) hb hl hh hlc w
            have h0 := (kb default).2
            have hlen : l ≤ h' ∧ h' ≤ len := bounds_le hb (Nat.le_refl _)
            have hmz : h' * sz ≤ len * sz := Nat.mul_le_mul_right _ hlen.2
            have hlz : l * sz ≤ h' * sz := Nat.mul_le_mul_right _ hlen.1
            have hln : ((cs.take (h' * sz)).drop (l * sz)).length = (h' - l) * sz := by
              rw [List.length_drop, List.length_take, hcl, Nat.sub_mul]; omega
            have hsm : (h' - l) * sz = h' * sz - l * sz := Nat.sub_mul _ _ _
            refine ⟨.slice (some ⟨g, (if c = l then off else off + l * sz), none⟩) (h' - l) (c - l), fun w => ?_, ?_⟩
            · simp [Instr.slice, underlying, ht', kb, te.run_size, add_plain, hsz]
              split <;> rfl
            · simp only [vrel]
              refine ⟨g, _, c - l, ca, ty, fz, rfl, by omega, hln, hro, ?_, ?_⟩
              · rw [hln, hsm]; split <;> omega
              · rw [hln]
                by_cases hcl2 : c = l
                · have h1 : h' - l = 0 := by omega
                  have hnil : (cs.take (h' * sz)).drop (l * sz) = [] := List.eq_nil_of_length_eq_zero (by rw [hln, h1, Nat.zero_mul])
                  rw [hnil, h1, Nat.zero_mul, List.take_zero]; exact vrels_nil
                · rw [if_neg hcl2]
                  have k1 := vrels_drop (l * sz) (vrels_take (h' * sz) hrel)
                  have e : (ca.toList.drop (off + l * sz)).take ((h' - l) * sz) = (((ca.toList.drop off).take cs.length).take (h' * sz)).drop (l * sz) := by
                    rw [List.take_take, Nat.min_eq_left (by omega), List.drop_take, List.drop_drop, ← hsm]
                  rw [e]; exact k1
        · simp at h
  | _ => simp at h
end
end GX
/- GX: the operations that leave memory alone: all of them. -/

namespace GX
open Go
section
variable {P : Program} {X : X} {φ : Phi}

theorem u8nat (n : Nat) (h : n < 256) : (UInt8.ofNat n).toNat = n := by simp; omega
theorem encodeR_eq (r : Int) : bytes (Utf8.encode r) = encodeR r := by
  unfold Utf8.encode encodeR
  simp only [nblt, cond_dec]
  have hc : (if Utf8.valid r = true then r.toNat else Utf8.runeError) ≤ 0x10FFFF := by
    split
    · rename_i h; simp [Utf8.valid] at h; omega
    · simp [Utf8.runeError]
  generalize (if Utf8.valid r = true then r.toNat else Utf8.runeError) = c at *
  split
  · simp only [bytes, List.map_cons, List.map_nil]; rw [u8nat _ (by omega)]
  · split
    · simp only [bytes, List.map_cons, List.map_nil]; rw [u8nat _ (by omega), u8nat _ (by omega)]
    · split
      · simp only [bytes, List.map_cons, List.map_nil]; rw [u8nat _ (by omega), u8nat _ (by omega), u8nat _ (by omega)]
      · simp only [bytes, List.map_cons, List.map_nil]; rw [u8nat _ (by omega), u8nat _ (by omega), u8nat _ (by omega), u8nat _ (by omega)]

theorem bytes_get (s : ByteArray) (i : Nat) : (bytes s)[i]? = (s[i]?).map (·.toNat) := by
  simp only [bytes, List.getElem?_map, Array.getElem?_toList]
  congr 1

theorem run_convert [Val] (s d : Nat) (v : Value) (w : World) {si di : TI} (hs : TIok P s si) (hd : TIok P d di) {r : Result Value}
    (h : (match si.desc, di.desc, v with
      | _, .int k, .int _ n => Conv.intToInt k n
      | _, .string, .int _ n => Conv.intToString n
      | _, .string, .string _ => pure v
      | _, _, _ => stuck "").run P w = r) (hk : (∃ k k' n, di.desc = .int k ∧ v = .int k' n) ∨ (∃ k n, di.desc = .string ∧ v = .int k n) ∨ (∃ b, di.desc = .string ∧ v = .string b)) :
    (convert s d v).run P w = r := by
  rcases hk with ⟨k, k', n, e, rfl⟩ | ⟨k, n, e, rfl⟩ | ⟨b, e, rfl⟩ <;> simp only [e] at h <;> rw [← h] <;> simp [convert, underlying, hs.und, hd.und, e] <;> cases si.desc <;> rfl

theorem cells_len {x : Value} {w : World} (v : Value) (h : (pure v : Sem Value).run P w = .ok x w) : x = v := by simpa using h.symm

theorem pure_ok [Val] (hX : XOK P X) {n : Nat} {e : Env} {a : Act} (he : erel φ n e a.tmps) {o : Oper} {v : AV} (h : pureOp X e o.op = some v) :
    ∃ u, (∀ w, (execOp a.eval o).run P w = .ok (.value u) w) ∧ vrel φ v u := by
  obtain ⟨dst, op, type, pos, after, guard⟩ := o
  dsimp only at h
  have fin : ∀ (s : Sem Value) (hs : execOp a.eval ⟨dst, op, type, pos, after, guard⟩ = (do pure (.value (← s)))), (∃ z, (∀ w, s.run P w = .ok z w) ∧ vrel φ v z) →
      ∃ u, (∀ w, (execOp a.eval ⟨dst, op, type, pos, after, guard⟩).run P w = .ok (.value u) w) ∧ vrel φ v u := by
    intro s hs ⟨z, h1, h2⟩
    exact ⟨z, fun w => by rw [hs]; simp [h1], h2⟩
  cases op with
  | move x => exact ⟨_, fun w => rfl, opd_ok he h⟩
  | assign x => exact ⟨_, fun w => rfl, opd_ok he h⟩
  | pick c x y =>
    simp only [pureOp] at h
    split at h
    · rename_i hc
      split at h
      · have hc := opd_ok he hc; simp only [vrel] at hc
        exact ⟨_, fun w => by simp [execOp, hc, asBool], opd_ok he h⟩
      · simp at h
    · rename_i hc
      split at h
      · have hc := opd_ok he hc; simp only [vrel] at hc
        exact ⟨_, fun w => by simp [execOp, hc, asBool], opd_ok he h⟩
      · simp at h
    · simp at h
  | nilCheck x =>
    simp only [pureOp] at h
    split at h
    · rename_i hc
      have hc := opd_ok he hc
      simp at h; subst h
      have hv := hc
      simp only [vrel] at hc
      obtain ⟨l, h1, h2⟩ := hc
      exact ⟨_, fun w => by simp [execOp, h2]; rfl, by rw [← h2]; exact hv⟩
    · rename_i hc
      have hc := opd_ok he hc
      simp at h; subst h
      have hv := hc
      simp only [vrel] at hc
      obtain ⟨g, off, c, t, fz, h2, _⟩ := hc
      exact ⟨_, fun w => by simp [execOp, h2]; rfl, by rw [← h2]; exact hv⟩
    · rename_i hc
      have hc := opd_ok he hc
      simp at h; subst h
      have hv := hc
      simp only [vrel] at hc
      obtain ⟨l, m, h1, h2⟩ := hc
      exact ⟨_, fun w => by simp [execOp, h1]; rfl, by rw [← h1]; exact hv⟩
    · simp at h
  | binOp op t x y yt =>
    simp only [pureOp] at h
    split at h
    · simp at h
    · rename_i p hp
      split at h
      · simp at h
      · rename_i q hq
        exact fin _ rfl (abin_ok hX h (opd_ok he hp) (opd_ok he hq))
  | unOp op t x =>
    simp only [pureOp] at h
    split at h
    · simp at h
    · rename_i p hp
      exact fin _ rfl (aun_ok h (opd_ok he hp))
  | convert s d x =>
    simp only [pureOp] at h
    split at h
    · simp at h
    · rename_i p hp
      have hp := opd_ok he hp
      split at h
      · simp at h
      · rename_i di hdi
        split at h
        · simp at h
        · rename_i si hsi
          have td := hX.ti _ _ hdi
          have ts := hX.ti _ _ hsi
          refine fin _ rfl ?_
          split at h
          · rename_i k k' m hd _
            simp at h; subst h
            simp only [vrel] at hp
            refine ⟨.int k (k.wrap m), fun w => run_convert s d _ w ts td ?_ (.inl ⟨k, k', m, hd, hp⟩), by simp [vrel, wrp_eq]⟩
            rw [hp, hd]; cases si.desc <;> rfl
          · rename_i k m hd _
            simp at h; subst h
            simp only [vrel] at hp
            refine ⟨.string (Utf8.encode m), fun w => run_convert s d _ w ts td ?_ (.inr (.inl ⟨k, m, hd, hp⟩)), _, rfl, encodeR_eq m⟩
            rw [hp, hd]; cases si.desc <;> rfl
          · rename_i m hd _
            simp at h; subst h
            simp only [vrel] at hp
            obtain ⟨b, hb, hs⟩ := hp
            refine ⟨.string b, fun w => run_convert s d _ w ts td ?_ (.inr (.inr ⟨b, hd, hb⟩)), b, rfl, hs⟩
            rw [hb, hd]; cases si.desc <;> rfl
          · simp at h
  | makeFunc fn first captured =>
    simp only [pureOp] at h
    split at h
    · simp at h
    · rename_i p hp
      split at h
      · simp at h
      · rename_i q hq
        simp at h; subst h
        refine fin _ rfl ⟨.func fn (first.map a.eval) (captured.map a.eval), fun w => rfl, _, _, rfl, ?_, ?_⟩
        · simpa using opds_ok he hp
        · simpa using opds_ok he hq
  | makeInterface t x =>
    simp only [pureOp] at h
    split at h
    · simp at h
    · rename_i p hp
      have hp := opd_ok he hp
      split at h
      · simp at h
      · rename_i i hi
        have ti := hX.ti _ _ hi
        refine fin _ rfl ?_
        split at h
        · simp at h
        · rename_i hn
          simp at h; subst h
          refine ⟨.iface t (a.eval x), fun w => ?_, _, rfl, hp⟩
          simp only [Instr.makeInterface, Sem.run_bind, ti.run_und, Result.andThen_ok]
          cases hd : i.desc <;> first | rfl | exact absurd hd (hn _)
  | build t parts =>
    simp only [pureOp] at h
    split at h
    · simp at h
    · rename_i ps hp
      have := opparts_ok he hp
      refine fin _ rfl (build_ok hX h ?_)
      simpa using this
  | slice t x lo hi mx =>
    simp only [pureOp] at h
    split at h
    · simp at h
    · rename_i p hp
      have hp := opd_ok he hp
      split at h
      · simp at h
      · rename_i lo' hlo
        split at h
        · simp at h
        · rename_i hi' hhi
          split at h
          · simp at h
          · rename_i mx' hmx
            split at h
            · simp at h
            · rename_i i hi0
              have ti := hX.ti _ _ hi0
              have hlo := optOpd_rel he hlo
              have hhi := optOpd_rel he hhi
              have hmx := optOpd_rel he hmx
              split at h
              · rename_i hd
                split at h
                · rename_i q s
                  obtain ⟨z, h1, h2⟩ := slice_ok hX h hp hlo hhi hmx (.inl (by rw [ti.und, hd])) (.inr (by rw [ti.und, hd])) (.inl ⟨_, rfl⟩)
                  refine fin _ rfl ⟨z, fun w => ?_, h2⟩
                  simp only [Instr.sliceAt, Sem.run_bind, ti.run_und, hd, Result.andThen_ok]
                  exact h1 w
                · simp at h
              · rename_i el hd
                split at h
                · simp at h
                · rename_i ei hei
                  split at h
                  · simp at h
                  · rename_i hns
                    obtain ⟨z, h1, h2⟩ := slice_ok hX h hp hlo hhi hmx (.inr ⟨el, by rw [ti.und, hd], ei, hei⟩) (.inl hns) (.inr (by rw [ti.und, hd]; simp))
                    refine fin _ rfl ⟨z, fun w => ?_, h2⟩
                    simp only [Instr.sliceAt, Sem.run_bind, ti.run_und, hd, Result.andThen_ok]
                    exact h1 w
              · simp at h
  | fieldAddr s x f =>
    simp only [pureOp] at h
    split at h
    · rename_i b o hp
      have hp := opd_ok he hp
      split at h
      · simp at h
      · rename_i i hi
        have ti := hX.ti _ _ hi
        split at h
        · rename_i fs hd
          split at h
          · simp at h
          · rename_i fd hf
            split at h
            · simp at h
            · rename_i fi hfi
              have tf := hX.ti _ _ hfi
              rw [nbeq, cond_dec] at h
              split at h
              · simp at h
              · rename_i hz
                simp at h; subst h
                simp only [vrel] at hp
                obtain ⟨l, h1, h2⟩ := hp
                have hf' : fs[f]? = some fd := by simpa using hf
                refine fin _ rfl ⟨.pointer (some ⟨l.blk, l.base + (o + fd.offset), none⟩), fun w => ?_, l, h1, rfl⟩
                simp [Instr.fieldAt, underlying, ti.und, hd, hf', h2, Instr.sureAddr, fieldPlace, tf.run_size, hz, add_plain, Nat.add_assoc]
        · simp at h
    · rename_i cs o hp
      have hp := opd_ok he hp
      split at h
      · simp at h
      · rename_i i hi
        have ti := hX.ti _ _ hi
        split at h
        · rename_i fs hd
          split at h
          · simp at h
          · rename_i fd hf
            split at h
            · simp at h
            · rename_i fi hfi
              have tf := hX.ti _ _ hfi
              rw [nbeq, cond_dec] at h
              split at h
              · simp at h
              · rename_i hz
                simp at h; subst h
                simp only [vrel] at hp
                obtain ⟨g, off, c, ty, fz, h2, hro⟩ := hp
                have hf' : fs[f]? = some fd := by simpa using hf
                refine fin _ rfl ⟨.pointer (some ⟨g, off + (o + fd.offset), none⟩), fun w => ?_, g, off, c, ty, fz, rfl, hro⟩
                simp [Instr.fieldAt, underlying, ti.und, hd, hf', h2, Instr.sureAddr, fieldPlace, tf.run_size, hz, add_plain, Nat.add_assoc]
        · simp at h
    · simp at h
  | field t x f =>
    simp only [pureOp] at h
    split at h
    · rename_i cs hp
      have hp := opd_ok he hp
      split at h
      · simp at h
      · rename_i i hi
        have ti := hX.ti _ _ hi
        split at h
        · rename_i fs hd
          split at h
          · simp at h
          · rename_i fd hf
            simp only [vrel] at hp
            obtain ⟨xs, h1, h2⟩ := hp
            have hf' : fs[f]? = some fd := by simpa using hf
            obtain ⟨z, k1, k2⟩ := run_part hX h2 h
            refine fin _ rfl ⟨z, fun w => ?_, k2⟩
            simp [Instr.field, underlying, ti.und, hd, hf', h1, asAgg, k1]
        · simp at h
    · simp at h
  | indexAddr t x ix =>
    simp only [pureOp] at h
    split at h
    · rename_i k i hix
      have hix := opd_ok he hix
      split at h
      · rename_i b o len cap hp
        have hp := opd_ok he hp
        split at h
        · simp at h
        · rename_i ti0 hti
          have ti := hX.ti _ _ hti
          split at h
          · rename_i el hd
            split at h
            · simp at h
            · rename_i ei hei
              have te := hX.ti _ _ hei
              rw [nblt, cond_dec] at h
              split at h
              · rename_i hlt
                simp at h; subst h
                simp only [vrel] at hp hix
                obtain ⟨l, c, h1, h2, _⟩ := hp
                refine fin _ rfl ⟨.pointer (some ⟨l.blk, l.base + (o + i * ei.size), none⟩), fun w => ?_, l, h1, rfl⟩
                simp [Instr.indexAt, hix, asIntOf, underlying, ti.und, hd, h2, te.run_size, hlt, add_plain, Nat.add_assoc]
              · simp at h
          · simp at h
      · rename_i cs len sz hp
        have hp := opd_ok he hp
        split at h
        · simp at h
        · rename_i ti0 hti
          have ti := hX.ti _ _ hti
          split at h
          · rename_i el hd
            split at h
            · simp at h
            · rename_i ei hei
              have te := hX.ti _ _ hei
              rw [nblt, nbeq, ← Bool.decide_and, cond_dec] at h
              split at h
              · rename_i hlt0
                obtain ⟨hlt, hsz⟩ := hlt0
                simp at h; subst h
                simp only [vrel] at hp hix
                obtain ⟨g, off, c, ca, ty, fz, h2, _, _, hro⟩ := hp
                refine fin _ rfl ⟨.pointer (some ⟨g, off + i * ei.size, none⟩), fun w => ?_, g, off, ca, ty, fz, rfl, hro⟩
                simp [Instr.indexAt, hix, asIntOf, underlying, ti.und, hd, h2, te.run_size, hlt, add_plain]
              · simp at h
          · simp at h
      · simp at h
    · simp at h
  | index t x ix =>
    simp only [pureOp] at h
    split at h
    · rename_i k i hix
      have hix := opd_ok he hix
      split at h
      · rename_i s hp
        have hp := opd_ok he hp
        split at h
        · simp at h
        · rename_i ti0 hti
          have ti := hX.ti _ _ hti
          split at h
          · rename_i hd
            split at h
            · rename_i c hc
              simp at h; subst h
              simp only [vrel] at hp hix
              obtain ⟨b, h1, rfl⟩ := hp
              rw [bytes_get] at hc
              simp only [Option.map_eq_some_iff] at hc
              obtain ⟨x, hx, rfl⟩ := hc
              refine fin _ rfl ⟨.int .u8 (x.toNat : Int), fun w => ?_, rfl⟩
              simp [Instr.index, hix, asIntOf, underlying, ti.und, hd, h1, hx]
            · simp at h
          · simp at h
      · simp at h
    · simp at h
  | extract x ix =>
    simp only [pureOp] at h
    split at h
    · rename_i vs hp
      have hp := opd_ok he hp
      simp only [vrel] at hp
      obtain ⟨xs, h1, h2⟩ := hp
      obtain ⟨u, hu, k⟩ := vrels_get h2 ix v h
      have hu' : xs[ix]? = some u := by simpa using hu
      exact fin _ rfl ⟨u, fun w => by simp [Instr.extract, h1, hu'], k⟩
    · simp at h
  | call c =>
    obtain ⟨cal, args, tys⟩ := c
    cases cal with
    | value f => simp [pureOp] at h
    | invoke r m => simp [pureOp] at h
    | builtin b =>
      have args1 : ∀ {x : Operand}, args.toList = [x] → args.map a.eval = #[a.eval x] := by
        intro x hx
        have : args = #[x] := by apply Array.toList_inj.1; simpa using hx
        subst this; simp
      have args2 : ∀ {x y : Operand}, args.toList = [x, y] → args.map a.eval = #[a.eval x, a.eval y] := by
        intro x y hx
        have : args = #[x, y] := by apply Array.toList_inj.1; simpa using hx
        subst this; simp
      have tys1 : ∀ {t : Nat} {ts : List Nat}, tys.toList = t :: ts → tys[0]? = some t := by
        intro t ts ht
        rw [← Array.getElem?_toList, ht]; rfl
      cases b with
      | len =>
        simp only [pureOp] at h
        split at h
        · rename_i x hx
          split at h
          · rename_i t ts ht
            split at h
            · simp at h
            · rename_i i hi
              have ti := hX.ti _ _ hi
              refine fin (Builtin.len_ tys type (args.map a.eval)) rfl ?_
              split at h
              · rename_i hd hp
                simp at h; subst h
                have hp := opd_ok he hp
                simp only [vrel] at hp
                obtain ⟨b, hb, rfl⟩ := hp
                exact ⟨_, fun w => by simp [Builtin.len_, args1 hx, tys1 ht, underlying, ti.und, hd, hb, goInt]; rfl, by simp [vrel, bytes_length]⟩
              · rename_i hd hp
                simp at h; subst h
                have hp := opd_ok he hp
                simp only [vrel] at hp
                obtain ⟨l, c, _, hb, _⟩ := hp
                exact ⟨_, fun w => by simp [Builtin.len_, args1 hx, tys1 ht, underlying, ti.und, hd, hb, goInt]; rfl, by simp [vrel]⟩
              · rename_i hd hp
                simp at h; subst h
                have hp := opd_ok he hp
                simp only [vrel] at hp
                obtain ⟨_, _, _, _, _, _, hb, _⟩ := hp
                exact ⟨_, fun w => by simp [Builtin.len_, args1 hx, tys1 ht, underlying, ti.und, hd, hb, goInt]; rfl, by simp [vrel]⟩
              · rename_i hd hp
                simp at h; subst h
                have hp := opd_ok he hp
                simp only [vrel] at hp
                exact ⟨_, fun w => by simp [Builtin.len_, args1 hx, tys1 ht, underlying, ti.und, hd, hp, goInt]; rfl, by simp [vrel]⟩
              · rename_i hd hp
                simp at h; subst h
                have hp := opd_ok he hp
                simp only [vrel] at hp
                obtain ⟨l, c, hb⟩ := hp
                exact ⟨_, fun w => by simp [Builtin.len_, args1 hx, tys1 ht, underlying, ti.und, hd, hb, goInt]; rfl, by simp [vrel]⟩
              · rename_i hd hp
                simp at h; subst h
                have hp := opd_ok he hp
                simp only [vrel] at hp
                exact ⟨_, fun w => by simp [Builtin.len_, args1 hx, tys1 ht, underlying, ti.und, hd, hp, goInt]; rfl, by simp [vrel]⟩
              · simp at h
          · simp at h
        · simp at h
      | cap =>
        simp only [pureOp] at h
        split at h
        · rename_i x hx
          split at h
          · rename_i t ts ht
            split at h
            · simp at h
            · rename_i i hi
              have ti := hX.ti _ _ hi
              refine fin (Builtin.cap_ tys type (args.map a.eval)) rfl ?_
              split at h
              · rename_i hd hp
                simp at h; subst h
                have hp := opd_ok he hp
                simp only [vrel, capOk] at hp
                obtain ⟨l, c, _, hb, rfl, _⟩ := hp
                exact ⟨_, fun w => by simp [Builtin.cap_, args1 hx, tys1 ht, underlying, ti.und, hd, hb, goInt]; rfl, by simp [vrel]⟩
              · rename_i hd hp
                simp at h; subst h
                have hp := opd_ok he hp
                simp only [vrel] at hp
                exact ⟨_, fun w => by simp [Builtin.cap_, args1 hx, tys1 ht, underlying, ti.und, hd, hp, goInt]; rfl, by simp [vrel]⟩
              · simp at h
          · simp at h
        · simp at h
      | min =>
        simp only [pureOp] at h
        split at h
        · rename_i x y hx
          refine fin (Builtin.min_ tys type (args.map a.eval)) rfl ?_
          split at h
          · rename_i hp hq
            simp at h; subst h
            have hp := opd_ok he hp
            have hq := opd_ok he hq
            simp only [vrel] at hp hq
            refine ⟨_, fun w => by simp [Builtin.min_, args2 hx, hp, hq, Builtin.min2]; rfl, ?_⟩
            simp only [vrel, ilt_eq, cond_dec]
          · simp at h
        · simp at h
      | max =>
        simp only [pureOp] at h
        split at h
        · rename_i x y hx
          refine fin (Builtin.max_ tys type (args.map a.eval)) rfl ?_
          split at h
          · rename_i hp hq
            simp at h; subst h
            have hp := opd_ok he hp
            have hq := opd_ok he hq
            simp only [vrel] at hp hq
            refine ⟨_, fun w => by simp [Builtin.max_, args2 hx, hp, hq, Builtin.max2]; rfl, ?_⟩
            simp only [vrel, ilt_eq, cond_dec]
          · simp at h
        · simp at h
      | _ => simp [pureOp] at h
  | _ => simp [pureOp] at h
end
end GX
