/- GX: reasoning about runs: numbers, texts, memory. -/
import Derived.Test.YtnlfcoojlgdgaaaDoorGXW
import Derived.Test.YtnlfcoojlgdgaaaDoorGXAlloc
namespace GX
noncomputable section
open Go
def inR : IntKind → Int → Prop
  | .i8, z => -128 ≤ z ∧ z < 128
  | .i16, z => -32768 ≤ z ∧ z < 32768
  | .i32, z => -2147483648 ≤ z ∧ z < 2147483648
  | .i64, z => -9223372036854775808 ≤ z ∧ z < 9223372036854775808
  | .u8, z => 0 ≤ z ∧ z < 256
  | .u16, z => 0 ≤ z ∧ z < 65536
  | .u32, z => 0 ≤ z ∧ z < 4294967296
  | .u64, z => 0 ≤ z ∧ z < 18446744073709551616
theorem wrp_in {k : IntKind} {z : Int} (h : inR k z) : wrp k z = z := by
  rw [wrp_eq]
  cases k <;> simp only [inR] at h <;> apply wrap_in <;> simp [lim, IntKind.signed] <;> omega
theorem wrp_u8 (z : Int) : wrp .u8 z = z % 256 := by rw [wrp_eq]; rfl
theorem wrp_u64 (z : Int) : wrp .u64 z = z % 18446744073709551616 := by rw [wrp_eq]; rfl
theorem seq_eq (a b : List Nat) : seq a b = decide (a = b) := by
  induction a generalizing b with
  | nil => cases b <;> simp [seq]
  | cons x a ih =>
    cases b with
    | nil => simp [seq]
    | cons y b =>
      unfold seq
      rw [nbeq, ih]
      by_cases h : x = y <;> simp [h]
section
variable {X : X} {l : L} {S : St} {R : AV → St → Prop}
section
variable {t u : Nat} {x y : Operand} {k : IntKind} {a b : Int}
theorem Ev_ibin {op : BinOp} {v : AV} (hx : od l x = some (.int k a)) (hy : od l y = some (.int k b)) (hop : op ≠ .shl ∧ op ≠ .shr) (hv : ibin op k a b = some v) (hR : R v S) : Ev X l S (.binOp op t x y u) R := by
  refine Ev_bin hx hy rfl ?_ hR
  unfold abin
  cases op <;> first | exact absurd rfl hop.1 | exact absurd rfl hop.2 | (dsimp only; rw [decide_eq_true rfl]; exact hv)
theorem Ev_add (hx : od l x = some (.int k a)) (hy : od l y = some (.int k b)) (h : inR k (a + b)) (hR : R (.int k (a + b)) S) : Ev X l S (.binOp .add t x y u) R :=
  Ev_ibin hx hy ⟨by simp, by simp⟩ (by unfold ibin; dsimp only; rw [wrp_in h]) hR
theorem Ev_sub (hx : od l x = some (.int k a)) (hy : od l y = some (.int k b)) (h : inR k (a - b)) (hR : R (.int k (a - b)) S) : Ev X l S (.binOp .sub t x y u) R :=
  Ev_ibin hx hy ⟨by simp, by simp⟩ (by unfold ibin; dsimp only; rw [wrp_in h]) hR
theorem Ev_mul (hx : od l x = some (.int k a)) (hy : od l y = some (.int k b)) (h : inR k (a * b)) (hR : R (.int k (a * b)) S) : Ev X l S (.binOp .mul t x y u) R :=
  Ev_ibin hx hy ⟨by simp, by simp⟩ (by unfold ibin; dsimp only; rw [wrp_in h]) hR
theorem Ev_lss (hx : od l x = some (.int k a)) (hy : od l y = some (.int k b)) (hR : R (.bool (decide (a < b))) S) : Ev X l S (.binOp .lss t x y u) R :=
  Ev_ibin hx hy ⟨by simp, by simp⟩ (by unfold ibin; dsimp only; rw [ilt_eq]) hR
theorem Ev_leq (hx : od l x = some (.int k a)) (hy : od l y = some (.int k b)) (hR : R (.bool (decide (a ≤ b))) S) : Ev X l S (.binOp .leq t x y u) R :=
  Ev_ibin hx hy ⟨by simp, by simp⟩ (by unfold ibin; dsimp only; rw [ilt_eq]; congr 2; by_cases h : b < a <;> simp [h] <;> omega) hR
theorem Ev_gtr (hx : od l x = some (.int k a)) (hy : od l y = some (.int k b)) (hR : R (.bool (decide (b < a))) S) : Ev X l S (.binOp .gtr t x y u) R :=
  Ev_ibin hx hy ⟨by simp, by simp⟩ (by unfold ibin; dsimp only; rw [ilt_eq]) hR
theorem Ev_geq (hx : od l x = some (.int k a)) (hy : od l y = some (.int k b)) (hR : R (.bool (decide (b ≤ a))) S) : Ev X l S (.binOp .geq t x y u) R :=
  Ev_ibin hx hy ⟨by simp, by simp⟩ (by unfold ibin; dsimp only; rw [ilt_eq]; congr 2; by_cases h : a < b <;> simp [h] <;> omega) hR
theorem Ev_eql (hx : od l x = some (.int k a)) (hy : od l y = some (.int k b)) (hR : R (.bool (decide (a = b))) S) : Ev X l S (.binOp .eql t x y u) R :=
  Ev_ibin hx hy ⟨by simp, by simp⟩ (by unfold ibin; dsimp only; rw [ieq_eq]; congr 2) hR
theorem Ev_neq (hx : od l x = some (.int k a)) (hy : od l y = some (.int k b)) (hR : R (.bool (decide (a ≠ b))) S) : Ev X l S (.binOp .neq t x y u) R :=
  Ev_ibin hx hy ⟨by simp, by simp⟩ (by unfold ibin; dsimp only; rw [ieq_eq]; congr 2; by_cases h : a = b <;> simp [h]) hR
theorem Ev_seql {a b : List Nat} (hx : od l x = some (.str a)) (hy : od l y = some (.str b)) (hR : R (.bool (decide (a = b))) S) : Ev X l S (.binOp .eql t x y u) R :=
  Ev_bin hx hy rfl (by unfold abin sbin; dsimp only; rw [seq_eq]) hR
theorem Ev_sneq {a b : List Nat} (hx : od l x = some (.str a)) (hy : od l y = some (.str b)) (hR : R (.bool (decide (a ≠ b))) S) : Ev X l S (.binOp .neq t x y u) R :=
  Ev_bin hx hy rfl (by unfold abin sbin; dsimp only; rw [seq_eq]; congr 2; by_cases h : a = b <;> simp [h]) hR
theorem Ev_sadd {a b : List Nat} (hx : od l x = some (.str a)) (hy : od l y = some (.str b)) (hl : a.length + b.length < 9223372036854775808) (hR : R (.str (a ++ b)) S) : Ev X l S (.binOp .add t x y u) R :=
  Ev_bin hx hy rfl (by unfold abin sbin; dsimp only; rw [nblt, decide_eq_true hl]; rfl) hR
/-- a shift to the right by a constant: 'q' is the power of two -/
theorem Ev_shr {k' : IntKind} {m q : Nat} (hx : od l x = some (.int k a)) (hy : od l y = some (.int k' ((m : Nat) : Int))) (hm : Nat.ble m k.bits = true) (hq : 2 ^ m = q) (hR : R (.int k (a / (q : Int))) S) : Ev X l S (.binOp .shr t x y u) R := by
  refine Ev_bin hx hy rfl ?_ hR
  unfold abin ishift
  dsimp only
  rw [hm]
  simp only [cond_true]
  rw [hq]
  show some (AV.int k (a.fdiv ((q : Nat) : Int))) = _
  rw [Int.fdiv_eq_ediv_of_nonneg _ (by omega)]
theorem Ev_shl {k' : IntKind} {m q : Nat} (hx : od l x = some (.int k a)) (hy : od l y = some (.int k' ((m : Nat) : Int))) (hm : Nat.ble m k.bits = true) (hq : 2 ^ m = q) (h : inR k (a * (q : Int))) (hR : R (.int k (a * (q : Int))) S) : Ev X l S (.binOp .shl t x y u) R := by
  refine Ev_bin hx hy rfl ?_ hR
  unfold abin ishift
  dsimp only
  rw [hm]
  simp only [cond_true]
  rw [hq]
  show some (AV.int k (wrp k (a * ((q : Nat) : Int)))) = _
  rw [wrp_in h]
theorem Ev_conv {s d : Nat} {k' : IntKind} {di si : TI} (hx : od l x = some (.int k a)) (hs : X.ti s = some si) (hd : X.ti d = some di) (hsd : si.desc = .int k) (hdd : di.desc = .int k') (h : inR k' a) (hR : R (.int k' a) S) : Ev X l S (.convert s d x) R := by
  refine Ev_pure (fun e he => ⟨?_, ?_⟩) hR
  · unfold cls; dsimp only; rw [hs]; dsimp only; rw [hsd]
  · unfold pureOp; dsimp only; rw [od_ok he hx, hd, hs]; dsimp only; rw [hdd]; dsimp only; rw [wrp_in h]
theorem Ev_convw {s d : Nat} {k' : IntKind} {di si : TI} (hx : od l x = some (.int k a)) (hs : X.ti s = some si) (hd : X.ti d = some di) (hsd : si.desc = .int k) (hdd : di.desc = .int k') (hR : R (.int k' (wrp k' a)) S) : Ev X l S (.convert s d x) R := by
  refine Ev_pure (fun e he => ⟨?_, ?_⟩) hR
  · unfold cls; dsimp only; rw [hs]; dsimp only; rw [hsd]
  · unfold pureOp; dsimp only; rw [od_ok he hx, hd, hs]; dsimp only; rw [hdd]
/-- a rune as a text -/
theorem Ev_conv_rune {s d : Nat} {di si : TI} (hx : od l x = some (.int k a)) (hs : X.ti s = some si) (hd : X.ti d = some di) (hsd : si.desc = .int k) (hdd : di.desc = .string) (hR : R (.str (encodeR a)) S) : Ev X l S (.convert s d x) R := by
  refine Ev_pure (fun e he => ⟨?_, ?_⟩) hR
  · unfold cls; dsimp only; rw [hs]; dsimp only; rw [hsd]
  · unfold pureOp; dsimp only; rw [od_ok he hx, hd, hs]; dsimp only; rw [hdd]
theorem Ev_conv_str {s d : Nat} {di si : TI} {z : List Nat} (hx : od l x = some (.str z)) (hs : X.ti s = some si) (hd : X.ti d = some di) (hsd : si.desc = .string) (hdd : di.desc = .string) (hR : R (.str z) S) : Ev X l S (.convert s d x) R := by
  refine Ev_pure (fun e he => ⟨?_, ?_⟩) hR
  · unfold cls; dsimp only; rw [hs]; dsimp only; rw [hsd]; dsimp only; rw [hd]; dsimp only; rw [hdd]
  · unfold pureOp; dsimp only; rw [od_ok he hx, hd, hs]; dsimp only; rw [hdd]
theorem Ev_not {p : Prop} [Decidable p] (hx : od l x = some (.bool (decide p))) (hR : R (.bool (decide (¬ p))) S) : Ev X l S (.unOp .not t x) R :=
  Ev_un hx (by unfold aun; dsimp only; simp) hR
theorem Ev_notb {b : Bool} (hx : od l x = some (.bool b)) (hR : R (.bool (!b)) S) : Ev X l S (.unOp .not t x) R :=
  Ev_un hx (by unfold aun; dsimp only) hR
end
section
variable {t u : Nat} {x y : Operand}
theorem Ev_extract {i : Nat} {vs : List AV} {v : AV} (hx : od l x = some (.tup vs)) (hv : vs[i]? = some v) (hR : R v S) : Ev X l S (.extract x i) R :=
  Ev_pure (fun e he => ⟨rfl, by unfold pureOp; dsimp only; rw [od_ok he hx]; exact hv⟩) hR
theorem Ev_makeFunc {fn : Fn} {p q : Array Operand} {vs us : List AV} (hp : ods l p.toList = some vs) (hq : ods l q.toList = some us) (hR : R (.func fn vs us) S) : Ev X l S (.makeFunc fn p q) R :=
  Ev_pure (fun e he => ⟨rfl, by unfold pureOp; dsimp only; rw [ods_ok he hp, ods_ok he hq]⟩) hR
theorem Ev_build {ps : Array (Nat × Operand)} {vs : List (Nat × AV)} {v : AV} (hp : odparts l ps.toList = some vs) (hv : abuild X t vs = some v) (hR : R v S) : Ev X l S (.build t ps) R :=
  Ev_pure (fun e he => ⟨rfl, by unfold pureOp; dsimp only; rw [odparts_ok he hp]; exact hv⟩) hR
theorem Ev_field {f : Nat} {cs : List AV} {i : TI} {fs : Array Field} {fd : Field} {v : AV} (hx : od l x = some (.agg cs)) (hi : X.ti t = some i) (hd : i.desc = .struct fs) (hf : fs.toList[f]? = some fd) (hv : getPart X fd.type cs fd.offset = some v) (hR : R v S) : Ev X l S (.field t x f) R :=
  Ev_pure (fun e he => ⟨rfl, by unfold pureOp; dsimp only; rw [od_ok he hx]; dsimp only; rw [hi]; dsimp only; rw [hd]; dsimp only; rw [hf]; exact hv⟩) hR
theorem Ev_fieldAddr {f b o : Nat} {i fi : TI} {fs : Array Field} {fd : Field} (hx : od l x = some (.ptr b o)) (hi : X.ti t = some i) (hd : i.desc = .struct fs) (hf : fs.toList[f]? = some fd) (hfi : X.ti fd.type = some fi) (hz : Nat.beq fi.size 0 = false) (hR : R (.ptr b (o + fd.offset)) S) : Ev X l S (.fieldAddr t x f) R :=
  Ev_pure (fun e he => ⟨rfl, by unfold pureOp; dsimp only; rw [od_ok he hx]; dsimp only; rw [hi]; dsimp only; rw [hd]; dsimp only; rw [hf]; dsimp only; rw [hfi]; dsimp only; rw [hz]; rfl⟩) hR
theorem Ev_indexAddr {k : IntKind} {i b o len : Nat} {cap : Cap} {ti ei : TI} {el : Nat} (hy : od l y = some (.int k ((i : Nat) : Int))) (hx : od l x = some (.slice b o len cap)) (hi : X.ti t = some ti) (hd : ti.desc = .slice el) (he' : X.ti el = some ei) (hlt : i < len) (hR : R (.ptr b (o + i * ei.size)) S) : Ev X l S (.indexAddr t x y) R :=
  Ev_pure (fun e he => ⟨rfl, by unfold pureOp; dsimp only; rw [od_ok he hy]; dsimp only; rw [od_ok he hx]; dsimp only; rw [hi]; dsimp only; rw [hd]; dsimp only; rw [he']; dsimp only; rw [nblt, decide_eq_true hlt]; rfl⟩) hR
theorem Ev_index {k : IntKind} {i c : Nat} {s : List Nat} {ti : TI} (hy : od l y = some (.int k ((i : Nat) : Int))) (hx : od l x = some (.str s)) (hi : X.ti t = some ti) (hd : ti.desc = .string) (hc : s[i]? = some c) (hR : R (.int .u8 ((c : Nat) : Int)) S) : Ev X l S (.index t x y) R :=
  Ev_pure (fun e he => ⟨rfl, by unfold pureOp; dsimp only; rw [od_ok he hy]; dsimp only; rw [od_ok he hx]; dsimp only; rw [hi]; dsimp only; rw [hd]; dsimp only; rw [hc]; rfl⟩) hR
theorem Ev_len_str {s : List Nat} {ti : TI} {ts : Array TypeId} {xs : Array Operand} {tr : List TypeId} (hxs : xs.toList = [x]) (hts : ts.toList = t :: tr) (hx : od l x = some (.str s)) (hi : X.ti t = some ti) (hd : ti.desc = .string) (hR : R (.int .i64 ((s.length : Nat) : Int)) S) : Ev X l S (.call { callee := .builtin .len, args := xs, argTypes := ts }) R := by
  refine Ev_pure (fun e he => ⟨?_, ?_⟩) hR
  · unfold cls; dsimp only; rw [hxs]; dsimp only; rw [od_ok he hx]
  · unfold pureOp; dsimp only; rw [hxs]; dsimp only; rw [hts]; dsimp only; rw [hi]; dsimp only; rw [hd, od_ok he hx]; rfl
def slen : AV → Option Nat
  | .slice _ _ n _ => some n
  | .rsl _ n _ => some n
  | .nils => some 0
  | .emp => some 0
  | _ => none
theorem Ev_len {v : AV} {m : Nat} {ti : TI} {ts : Array TypeId} {xs : Array Operand} {tr : List TypeId} {el : Nat} (hxs : xs.toList = [x]) (hts : ts.toList = t :: tr) (hx : od l x = some v) (hi : X.ti t = some ti) (hd : ti.desc = .slice el) (hm : slen v = some m) (hR : R (.int .i64 ((m : Nat) : Int)) S) : Ev X l S (.call { callee := .builtin .len, args := xs, argTypes := ts }) R := by
  refine Ev_pure (fun e he => ⟨?_, ?_⟩) hR
  · unfold cls; dsimp only; rw [hxs]; dsimp only; rw [od_ok he hx]; cases v <;> first | rfl | cases hm
  · unfold pureOp; dsimp only; rw [hxs]; dsimp only; rw [hts]; dsimp only; rw [hi]; dsimp only; rw [hd, od_ok he hx]; cases v <;> cases hm <;> rfl
theorem Ev_min {k : IntKind} {a b : Int} {ts : Array TypeId} {xs : Array Operand} (hxs : xs.toList = [x, y]) (hx : od l x = some (.int k a)) (hy : od l y = some (.int k b)) (hR : R (.int k (min a b)) S) : Ev X l S (.call { callee := .builtin .min, args := xs, argTypes := ts }) R := by
  refine Ev_pure (fun e he => ⟨rfl, ?_⟩) hR
  unfold pureOp; dsimp only; rw [hxs]; dsimp only; rw [od_ok he hx, od_ok he hy]; dsimp only; rw [ilt_eq, cond_dec]; congr 2; split <;> omega
theorem Ev_max {k : IntKind} {a b : Int} {ts : Array TypeId} {xs : Array Operand} (hxs : xs.toList = [x, y]) (hx : od l x = some (.int k a)) (hy : od l y = some (.int k b)) (hR : R (.int k (max a b)) S) : Ev X l S (.call { callee := .builtin .max, args := xs, argTypes := ts }) R := by
  refine Ev_pure (fun e he => ⟨rfl, ?_⟩) hR
  unfold pureOp; dsimp only; rw [hxs]; dsimp only; rw [od_ok he hx, od_ok he hy]; dsimp only; rw [ilt_eq, cond_dec]; congr 2; split <;> omega
/-- a slicing -/
theorem Ev_slice {el : Nat} {v r : AV} {lo hi mx : Option Operand} {lo' hi' mx' : Option AV} {ti ei : TI} (hx : od l x = some v) (hlo : odopt l lo = some lo') (hhi : odopt l hi = some hi') (hmx : odopt l mx = some mx') (hti : X.ti t = some ti) (hd : ti.desc = .slice el) (he' : X.ti el = some ei)
    (hns : (match v with | .str _ => false | _ => true) = true) (hr : aslice X t v lo' hi' mx' = some r) (hR : R r S) : Ev X l S (.slice t x lo hi mx) R := by
  refine Ev_pure (fun e he => ⟨rfl, ?_⟩) hR
  unfold pureOp; dsimp only; rw [od_ok he hx]; dsimp only; rw [odopt_ok he hlo]; dsimp only; rw [odopt_ok he hhi]; dsimp only; rw [odopt_ok he hmx]; dsimp only; rw [hti]; dsimp only; rw [hd]; dsimp only; rw [he']; dsimp only
  cases v <;> first | exact hr | cases hns
theorem Ev_slice_str {s : List Nat} {r : AV} {lo hi mx : Option Operand} {lo' hi' mx' : Option AV} {ti : TI} (hx : od l x = some (.str s)) (hlo : odopt l lo = some lo') (hhi : odopt l hi = some hi') (hmx : odopt l mx = some mx') (hti : X.ti t = some ti) (hd : ti.desc = .string)
    (hr : aslice X t (.str s) lo' hi' mx' = some r) (hR : R r S) : Ev X l S (.slice t x lo hi mx) R := by
  refine Ev_pure (fun e he => ⟨rfl, ?_⟩) hR
  unfold pureOp; dsimp only; rw [od_ok he hx]; dsimp only; rw [odopt_ok he hlo]; dsimp only; rw [odopt_ok he hhi]; dsimp only; rw [odopt_ok he hmx]; dsimp only; rw [hti]; dsimp only; rw [hd]; exact hr
/-! memory -/
/-- every block is below the next number -/
def Sok (S : St) : Prop := ∀ c x, S.h.get c = some x → c < S.n
theorem get_new (hn : S.n < 1000000000) (b : AB) (c : Nat) : (S.new b).h.get c = if c = S.n then some b else S.h.get c := by
  unfold St.new; dsimp only; rw [Tr.get_set 40 _ _ _ _ (by omega)]
theorem get_put {id : Nat} (hn : id < 1000000000) (b : AB) (c : Nat) : (S.put id b).h.get c = if c = id then some b else S.h.get c := by
  unfold St.put; dsimp only; rw [Tr.get_set 40 _ _ _ _ (by omega)]
theorem Ev_load {b o : Nat} {i : TI} {ty : Nat} {cs : List AV} {sp : Bool} {v : AV} (hx : od l x = some (.ptr b o)) (hi : X.ti t = some i) (hag : aggD i.desc = false) (hb : S.h.get b = some (.cells ty cs sp)) (hv : cs[o]? = some v) (hvv : veq v v = true) (hR : R v S) : Ev X l S (.load t x) R := by
  refine Ev_read (fun e he => ⟨rfl, ?_⟩) hvv hR
  unfold readOp; dsimp only; rw [od_ok he hx]; dsimp only; unfold loadAt; rw [hi]; dsimp only
  split
  · rename_i h; rw [h] at hag; cases hag
  · rename_i h; rw [h] at hag; cases hag
  · rw [hb]; exact hv
theorem Ev_load_agg {b o : Nat} {i : TI} {ty : Nat} {cs ds : List AV} {sp : Bool} (hx : od l x = some (.ptr b o)) (hi : X.ti t = some i) (hag : aggD i.desc = true) (hb : S.h.get b = some (.cells ty cs sp)) (hle : o + i.size ≤ cs.length) (hv : (cs.drop o).take i.size = ds) (hvv : veqs ds ds = true) (hR : R (.agg ds) S) : Ev X l S (.load t x) R := by
  refine Ev_read (fun e he => ⟨rfl, ?_⟩) (by unfold veq; exact hvv) hR
  have hrow : row S.h b o i.size = some ds := by unfold row; rw [hb]; dsimp only; rw [nble, decide_eq_true hle]; simp only [cond_true]; rw [hv]
  unfold readOp; dsimp only; rw [od_ok he hx]; dsimp only; unfold loadAt; rw [hi]; dsimp only
  split
  · rw [hrow]
  · rw [hrow]
  · rename_i h1 h2
    cases hd : i.desc with
    | struct f => exact absurd hd (h1 f)
    | array a b => exact absurd hd (h2 a b)
    | _ => rw [hd] at hag; cases hag
theorem Ev_store {b o : Nat} {i : TI} {ty : Nat} {cs : List AV} {sp : Bool} {v : AV} (hx : od l x = some (.ptr b o)) (hy : od l y = some v) (hi : X.ti t = some i) (hz : Nat.beq v.cells.length i.size = true) (hone : v.cells.all AV.one = true) (hb : S.h.get b = some (.cells ty cs sp)) (hle : o + v.cells.length ≤ cs.length) (hn : b < 1000000000)
    (hR : ∀ S', S'.n = S.n → S'.h.get b = some (.cells ty (lput cs o v.cells) sp) → (∀ c, c ≠ b → S'.h.get c = S.h.get c) → R (.tup []) S') : Ev X l S (.store t x y) R := by
  have hst : storeAt S b o v.cells = some (S.put b (.cells ty (lput cs o v.cells) sp)) := by
    unfold storeAt; rw [hb]; dsimp only; rw [nble, decide_eq_true hle, hone]; rfl
  refine Ev_loud (S' := S.put b (.cells ty (lput cs o v.cells) sp)) (v := .tup []) (fun e he => ⟨rfl, ?_⟩) (Nat.le_refl _) (hR _ rfl ?_ ?_)
  · unfold loudOp; dsimp only; rw [od_ok he hx]; dsimp only; rw [od_ok he hy]; dsimp only; rw [hi]; dsimp only; rw [hz]; simp only [cond_true]; rw [hst]
  · rw [get_put hn, if_pos rfl]
  · intro c hc; rw [get_put hn, if_neg hc]
/-- a new block -/
theorem Ev_mk {op : Op} {b : AB} {v : AV} (h : ∀ e, Ag l e → cls X e op = .alloc ∧ allocOp X e S.n op = some (b, v)) (hok : Sok S) (hn : S.n < 1000000000)
    (hR : ∀ S', S'.n = S.n + 1 → Sok S' → S'.h.get S.n = some b → (∀ c, c < S.n → S'.h.get c = S.h.get c) → R v S') : Ev X l S op R := by
  refine Ev_alloc h hn (hR _ rfl ?_ ?_ ?_)
  · intro c x hc
    rw [get_new hn] at hc
    by_cases h : c = S.n
    · rw [h]; exact Nat.lt_succ_self _
    · rw [if_neg h] at hc; exact Nat.lt_succ_of_lt (hok c x hc)
  · rw [get_new hn, if_pos rfl]
  · intro c hc; rw [get_new hn, if_neg (by omega)]
theorem Ev_alloc_ {i : TI} (hi : X.ti t = some i) (hok : Sok S) (hn : S.n < 1000000000)
    (hR : ∀ S', S'.n = S.n + 1 → Sok S' → S'.h.get S.n = some (.cells t i.zero false) → (∀ c, c < S.n → S'.h.get c = S.h.get c) → R (.ptr S.n 0) S') : Ev X l S (.alloc t) R :=
  Ev_mk (fun e _ => ⟨rfl, by unfold allocOp; dsimp only; rw [hi]⟩) hok hn hR
theorem Ev_box {v : AV} (hx : od l x = some v) (hok : Sok S) (hn : S.n < 1000000000)
    (hR : ∀ S', S'.n = S.n + 1 → Sok S' → S'.h.get S.n = some (.cells t v.cells false) → (∀ c, c < S.n → S'.h.get c = S.h.get c) → R (.ptr S.n 0) S') : Ev X l S (.box t x) R :=
  Ev_mk (fun e he => ⟨rfl, by unfold allocOp; dsimp only; rw [od_ok he hx]⟩) hok hn hR
theorem Ev_range {i : TI} {s : List Nat} (hx : od l x = some (.str s)) (hi : X.ti t = some i) (hd : i.desc = .string) (hok : Sok S) (hn : S.n < 1000000000)
    (hR : ∀ S', S'.n = S.n + 1 → Sok S' → S'.h.get S.n = some (.sit s 0) → (∀ c, c < S.n → S'.h.get c = S.h.get c) → R (.ptr S.n 0) S') : Ev X l S (.range t x) R :=
  Ev_mk (fun e he => ⟨rfl, by unfold allocOp; dsimp only; rw [hi]; dsimp only; rw [hd]; dsimp only; rw [od_ok he hx]⟩) hok hn hR
theorem Ev_buildSlice {len el : Nat} {i ei : TI} {ps : Array (Nat × Operand)} {vs : List (Nat × AV)} {cs : List AV} (hi : X.ti t = some i) (hd : i.desc = .slice el) (he' : X.ti el = some ei) (hz : (Nat.beq ei.size 0 || Nat.blt 16777216 (len * ei.size) || !(Nat.beq ei.zero.length ei.size)) = false)
    (hp : odparts l ps.toList = some vs) (hcs : afill (fun i => some (i * ei.size, ei.size)) (rep ei.zero len) vs = some cs) (hok : Sok S) (hn : S.n < 1000000000)
    (hR : ∀ S', S'.n = S.n + 1 → Sok S' → S'.h.get S.n = some (.cells el cs false) → (∀ c, c < S.n → S'.h.get c = S.h.get c) → R (.slice S.n 0 len (.ex len)) S') : Ev X l S (.buildSlice t len ps) R :=
  Ev_mk (fun e he => ⟨rfl, by unfold allocOp; dsimp only; rw [hi]; dsimp only; rw [hd]; dsimp only; rw [he']; dsimp only; rw [hz]; simp only [cond_false]; rw [odparts_ok he hp]; dsimp only; rw [hcs]⟩) hok hn hR
theorem Ev_conv_bytes {s d el : Nat} {si di ei : TI} {z : List Nat} (hx : od l x = some (.str z)) (hs : X.ti s = some si) (hd : X.ti d = some di) (hsd : si.desc = .string) (hdd : di.desc = .slice el) (he' : X.ti el = some ei) (hz : Nat.beq ei.size 1 = true) (hk : ei.desc = .int .u8) (hok : Sok S) (hn : S.n < 1000000000)
    (hR : ∀ S', S'.n = S.n + 1 → Sok S' → S'.h.get S.n = some (.cells el (sbytes z) true) → (∀ c, c < S.n → S'.h.get c = S.h.get c) → R (.slice S.n 0 z.length (.op 1)) S') : Ev X l S (.convert s d x) R :=
  Ev_mk (fun e he => ⟨by unfold cls; dsimp only; rw [hs]; dsimp only; rw [hsd]; dsimp only; rw [hd]; dsimp only; rw [hdd], by unfold allocOp; dsimp only; rw [od_ok he hx]; dsimp only; rw [hd]; dsimp only; rw [hs]; dsimp only; rw [hdd]; dsimp only; rw [he']; dsimp only; rw [hz, hk]; rfl⟩) hok hn hR
theorem Ev_conv_runes {s d el : Nat} {si di ei : TI} {z : List Nat} (hx : od l x = some (.str z)) (hs : X.ti s = some si) (hd : X.ti d = some di) (hsd : si.desc = .string) (hdd : di.desc = .slice el) (he' : X.ti el = some ei) (hz : Nat.beq ei.size 1 = true) (hk : ei.desc = .int .i32) (hok : Sok S) (hn : S.n < 1000000000)
    (hR : ∀ S', S'.n = S.n + 1 → Sok S' → S'.h.get S.n = some (.cells el (runesFrom z.length z) true) → (∀ c, c < S.n → S'.h.get c = S.h.get c) → R (.slice S.n 0 (runesFrom z.length z).length (.op 1)) S') : Ev X l S (.convert s d x) R :=
  Ev_mk (fun e he => ⟨by unfold cls; dsimp only; rw [hs]; dsimp only; rw [hsd]; dsimp only; rw [hd]; dsimp only; rw [hdd], by unfold allocOp; dsimp only; rw [od_ok he hx]; dsimp only; rw [hd]; dsimp only; rw [hs]; dsimp only; rw [hdd]; dsimp only; rw [he']; dsimp only; rw [hz, hk]; rfl⟩) hok hn hR
end
end
end
end GX
