/- An array of three texts that came in: opened, and shut again. -/
import Derived.Test.YtmbgeinjifhagaaDoorFrame
import Derived.Test.YtmbgeinjifhagaaDoorCards
import Derived.Laws.IdiomArrays
namespace Go.Proofs.YtmbgeinjifhagaaDoor
open Go.ChangeShapes Go.WideShapes Go.ChangeAt Go.RowKit
open Go.ChangeMaps (open_string shut_string)

section
variable {H : Type} {enc : TypeId × Value → H} {P : Program} {w : World} {base : Nat} {sp : Nat → Bool} {held : Bool}
theorem three_of {α : Type} {cs : Array α} (h : cs.size = 3) : ∃ c0 c1 c2, cs = #[c0, c1, c2] := by
  obtain ⟨l⟩ := cs
  match l, h with
  | [c0, c1, c2], _ => exact ⟨c0, c1, c2, rfl⟩
/-- An array of three texts that came in. -/
theorem open_texts3 {r : Reach} {b0 : Nat} {t e : TypeId} {v : Value} {d : DataW H} {ps : List MemPlace} (ht : P.underlying t = some (.array 3 e)) (he : P.underlying e = some .string) (hce : P.cellsOf e = 1) (hct : P.cellsOf t = 3)
    (hval : Value.okWide P w r b0 t v) (hd : DataW.Trod enc P w base sp held t v d ps) :
    ∃ s0 s1 s2 : ByteArray, v = .agg #[.string s0, .string s1, .string s2] ∧ d = .agg [.lit (.string s0.data.toList), .lit (.string s1.data.toList), .lit (.string s2.data.toList)] ∧ ps = [] ∧ s0.size ≤ maxLen ∧ s1.size ≤ maxLen ∧ s2.size ≤ maxLen := by
  simp only [Value.okWide, ht] at hval
  obtain ⟨cs, rfl, h2, _⟩ := hval
  obtain ⟨c0, c1, c2, rfl⟩ := three_of (h2.trans hct)
  obtain ⟨fuel, hf⟩ := hd
  obtain ⟨xs, m, _, hx, _, hlen, hr⟩ := DataW.trod_array ht hf
  match xs, hlen with
  | [y0, y1, y2], _ =>
    have r0 := hr 0 (by decide)
    have r1 := hr 1 (by decide)
    have r2 := hr 2 (by decide)
    simp [hce, Value.cells] at r0 r1 r2
    obtain ⟨s0, e0, g0, z0⟩ := DataW.trod_string he r0
    obtain ⟨s1, e1, g1, z1⟩ := DataW.trod_string he r1
    obtain ⟨s2, e2, g2, z2⟩ := DataW.trod_string he r2
    simp at e0 e1 e2
    subst e0 e1 e2 g0 g1 g2
    simp only [Prod.mk.injEq] at hx
    exact ⟨s0, s1, s2, rfl, by simpa using hx.1, by simpa using hx.2, z0, z1, z2⟩
theorem shut_texts3 {t e : TypeId} {s0 s1 s2 : ByteArray} (ht : P.underlying t = some (.array 3 e)) (he : P.underlying e = some .string) (hce : P.cellsOf e = 1) (hct : P.cellsOf t = 3) (h0 : s0.size ≤ maxLen) (h1 : s1.size ≤ maxLen) (h2 : s2.size ≤ maxLen) :
    DataW.Trod enc P w base sp held t (.agg #[.string s0, .string s1, .string s2]) (.agg [.lit (.string s0.data.toList), .lit (.string s1.data.toList), .lit (.string s2.data.toList)]) [] :=
  ⟨2, by simp [DataW.trod, Value.cells, ht, he, hce, hct, h0, h1, h2, List.range_succ]⟩
end
end Go.Proofs.YtmbgeinjifhagaaDoor
