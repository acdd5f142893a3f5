/- Chapter 1: arguments that are slices; the tables. -/
import Derived.Test.YtnlfcoojlgdgaaaDoorGXTab
import Derived.Test.YtnlfcoojlgdgaaaDoorGXArgs
namespace Go.Proofs.YtnlfcoojlgdgaaaDoor
open GX Go.Shelf
theorem cell_all {w w' : World} {a : Addr} {v : Value} (hs : ∀ (g : Nat) (o : Obj), w.heap[g]? = some o → w'.heap[g]? = some o) (h : w.cell? a = some v) : w'.cell? a = some v := by
  cases ho : w.heap[a.block]? with
  | none => simp [World.cell?, ho] at h
  | some o =>
    have h1 := hs _ o ho
    simpa [World.cell?, ho, h1] using h
theorem tabs_all (w : World) (hT : Lib.Utf8Tabs (Tryd.laysValid_ren.g 3) (Tryd.laysValid_ren.g 4) w) (w' : World) (hs : ∀ (g : Nat) (o : Obj), w.heap[g]? = some o → w'.heap[g]? = some o) : Lib.Utf8Tabs (Tryd.laysValid_ren.g 3) (Tryd.laysValid_ren.g 4) w' :=
  ⟨fun c hc => cell_all hs (hT.1 c hc), fun i hi => ⟨cell_all hs (hT.2 i hi).1, cell_all hs (hT.2 i hi).2⟩⟩
theorem str_rel [Val] (φ : Phi) (s : ByteArray) : vrel φ (.str (GX.bytes s)) (.string s) := ⟨s, rfl, rfl⟩
theorem bytes_lt (s : ByteArray) : ∀ b ∈ GX.bytes s, b < 256 := by
  intro b hb
  unfold GX.bytes at hb
  obtain ⟨c, _, rfl⟩ := List.mem_map.1 hb
  exact c.toNat_lt
theorem wf_u8 {n : Int} (h : (Lit.int .u8 n).wf = true) : 0 ≤ n ∧ n < 256 := by
  simp [Lit.wf, IntKind.min, IntKind.max, IntKind.signed, IntKind.bits] at h
  omega
end Go.Proofs.YtnlfcoojlgdgaaaDoor
