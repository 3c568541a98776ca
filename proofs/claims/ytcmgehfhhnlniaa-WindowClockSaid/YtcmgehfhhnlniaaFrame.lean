/- What the four frames share: the post behind a call that leaves what was there as it was; an array of two numbers that came in, opened and shut again. -/
import Derived.Test.YtcmgehfhhnlniaaRows
import Derived.WalkKit
import Derived.ProofKit
import Derived.OpenShut
namespace Go.Proofs.Ytcmgehfhhnlniaa
open Go.ChangeShapes Go.WideShapes Go.ChangeAt Go.RowKit

theorem own : ownKnob Try.prog.godebug = none := by kernel_rfl
theorem laidOut : laidOutB Try.prog = true := by kernel_rfl
theorem cells3 : Try.prog.cellsOf 3 = 1 := by kernel_rfl
theorem cells33 : Try.prog.cellsOf 33 = 2 := by kernel_rfl

section
variable {H : Type} {enc : TypeId × Value → H} {P : Program}
/-- The post of a call behind which all that was there is as it was. -/
theorem post_under {f : Func} {s : ChangeSpec} {apart fresh handsOn : Bool} {W W' : World} {args : Array Value} {v : Value} {ds gs : List (DataW H)} {before pa pv : List MemPlace}
    (hW : DataW.Whole enc P f.params.toList s.vars apart W args.toList ds gs before)
    (hres : ∀ (b : Nat) (sp : Nat → Bool) (hd : Bool), DataW.TrodAll enc P W' b sp hd f.resultTypes.toList (v.resultList f.resultTypes.size) (s.fn H (ds ++ gs)).results [])
    (hargs : DataW.TrodAll enc P W' 0 (fun b => decide (b < W.heap.size)) true f.params.toList args.toList (s.fn H (ds ++ gs)).args pa)
    (hvars : ∀ sp : Nat → Bool, DataW.TrodVars enc P W' sp s.vars (s.fn H (ds ++ gs)).vars pv)
    (hps : before = pa ++ pv) (hb : Below W.heap.size W W') : s.post enc P f apart fresh handsOn false W args v W' := by
  refine ⟨ds, gs, before, [], pa, pv, hW, hres _ _ _, hargs, hvars _, World.keptBut_mono (fun p hp => ⟨hp, ?_⟩) (hb.frame (· ∈ before)), fun h => by cases h⟩
  rw [hps, List.mem_append] at hp
  exact Or.inr hp

variable {w : World} {base : Nat} {sp : Nat → Bool} {held : Bool}
theorem two_of {α : Type} {cs : Array α} (h : cs.size = 2) : ∃ c0 c1, cs = #[c0, c1] := by
  obtain ⟨l⟩ := cs
  match l, h with
  | [c0, c1], _ => exact ⟨c0, c1, rfl⟩
theorem open_ints2 {r : Reach} {b0 : Nat} {t e : TypeId} {k : IntKind} {v : Value} {d : DataW H} {ps : List MemPlace} (ht : P.underlying t = some (.array 2 e)) (he : P.underlying e = some (.int k)) (hce : P.cellsOf e = 1) (hct : P.cellsOf t = 2)
    (hval : Value.okWide P w r b0 t v) (hd : DataW.Trod enc P w base sp held t v d ps) :
    ∃ n0 n1 : Int, v = .agg #[.int k n0, .int k n1] ∧ d = .agg [.lit (.int k n0), .lit (.int k n1)] ∧ ps = [] ∧ (Lit.int k n0).wf = true ∧ (Lit.int k n1).wf = true := by
  simp only [Value.okWide, ht] at hval
  obtain ⟨cs, rfl, h2, _⟩ := hval
  obtain ⟨c0, c1, rfl⟩ := two_of (h2.trans hct)
  obtain ⟨fuel, hf⟩ := hd
  obtain ⟨xs, m, _, hx, _, hlen, hr⟩ := DataW.trod_array ht hf
  match xs, hlen with
  | [y0, y1], _ =>
    have r0 := hr 0 (by decide)
    have r1 := hr 1 (by decide)
    simp [hce, Value.cells] at r0 r1
    obtain ⟨n0, e0, g0, z0⟩ := DataW.trod_int he r0
    obtain ⟨n1, e1, g1, z1⟩ := DataW.trod_int he r1
    simp at e0 e1
    subst e0 e1 g0 g1
    simp only [Prod.mk.injEq] at hx
    exact ⟨n0, n1, rfl, by simpa using hx.1, by simpa using hx.2, z0, z1⟩
theorem shut_ints2 {t e : TypeId} {k : IntKind} {n0 n1 : Int} (ht : P.underlying t = some (.array 2 e)) (he : P.underlying e = some (.int k)) (hce : P.cellsOf e = 1) (hct : P.cellsOf t = 2) (h0 : (Lit.int k n0).wf = true) (h1 : (Lit.int k n1).wf = true) :
    DataW.Trod enc P w base sp held t (.agg #[.int k n0, .int k n1]) (.agg [.lit (.int k n0), .lit (.int k n1)]) [] :=
  ⟨2, by simp [DataW.trod, Value.cells, ht, he, hce, hct, h0, h1, List.range_succ]⟩
end
end Go.Proofs.Ytcmgehfhhnlniaa
