/- The walk over window.times (function 17). -/
import Derived.Test.YtcmgehfhhnlniaaFit

import Derived.Handy
namespace Go.Proofs.Ytcmgehfhhnlniaa
open Go.RowKit

/-- What 'times' tells. -/
def tmB (n m : Int) : Bool := fits n m
def tmV (n m : Int) : Int := if fits n m = true then n * m else 0

theorem fits_iff {n m : Int} : fits n m = true ↔ 0 < m ∧ m ≤ 1125899906842624 ∧ n ≤ 1125899906842624 / m := by
  simp only [fits, Bool.and_eq_true, decide_eq_true_eq, isT_iff]
  omega

theorem fits_mul {n m : Int} (hn : 0 ≤ n) (h : fits n m = true) : 0 ≤ n * m ∧ n * m ≤ 1125899906842624 := by
  obtain ⟨h0, h1, h2⟩ := fits_iff.1 h
  exact ⟨Int.mul_nonneg hn (by omega), Int.mul_le_of_le_ediv h0 h2⟩

theorem times_any (n m : Int) (w : World) (hn0 : 0 ≤ n) :
    Calls Try.prog 17 #[.int .i64 n, .int .i64 m] w fun e w' => e = .returned (.tuple #[.int .i64 (tmV n m), .bool (tmB n m)]) ∧ Below w.heap.size w w' := by
  have hmf : ∀ (fn : Fn) (first cap : Array Value) (w : World), (Instr.makeFunc fn first cap).run Try.prog w = .ok (.func fn first cap) w := fun _ _ _ _ => rfl
  have FC := Lib.hid (fun u hw hn => fits_any (w.heap.size + 1) w.heap.size n m u hw hn)
  cases h : fits n m
  · have e1 : tmB n m = false := by simp [tmB, h]
    have e2 : tmV n m = 0 := by simp [tmV, h]
    rw [e1, e2]
    rw [h] at FC
    clear e1 e2 h
    go_enter Try.func17, Try.ntmps17
    go_wp2_with fail
    refine (FC.out _ (by simp [go_sem]) (by simp [go_sem])).mono ?_
    rintro e w1 ⟨rfl, hb1⟩
    go_wp2
    go_ret2
    exact ⟨rfl, (((Below.refl _ _).alloc (Nat.le_refl _) _).alloc (by simp) _).trans (hb1.mono (by simp; omega))⟩
  · have e1 : tmB n m = true := by simp [tmB, h]
    have e2 : tmV n m = n * m := by simp [tmV, h]
    obtain ⟨hp0, hp1⟩ := fits_mul hn0 h
    rw [e1, e2]
    rw [h] at FC
    clear e1 e2 h
    go_enter Try.func17, Try.ntmps17
    go_wp2_with fail
    refine (FC.out _ (by simp [go_sem]) (by simp [go_sem])).mono ?_
    rintro e w1 ⟨rfl, hb1⟩
    have c0 : w1.cell? ⟨w.heap.size, 0, none⟩ = some (.int .i64 n) := by rw [hb1.cell (p := ⟨w.heap.size, 0, none⟩) (by simp; omega)]; simp [go_sem]
    have c1 : w1.cell? ⟨w.heap.size + 1, 0, none⟩ = some (.int .i64 m) := by rw [hb1.cell (p := ⟨w.heap.size + 1, 0, none⟩) (by simp)]; simp [go_sem]
    have hbb := (((Below.refl w.heap.size w).alloc (Nat.le_refl _) _).alloc (by simp) _).trans (hb1.mono (by simp; omega))
    clear hb1
    go_wp2
    go_ret2
    exact ⟨rfl, hbb⟩
end Go.Proofs.Ytcmgehfhhnlniaa
