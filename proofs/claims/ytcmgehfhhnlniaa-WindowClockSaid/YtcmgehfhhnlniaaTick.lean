/- The walks over Tick, whose cases are left by a label (function 12), and over the laws' kept (function 8). -/
import Derived.Test.YtcmgehfhhnlniaaDue
namespace Go.Proofs.Ytcmgehfhhnlniaa
open Go.RowKit

theorem tick_yes (n t : Int) (w : World) (h : isT t = true) (hle : n ≤ t) :
    Calls Try.prog 12 #[.int .i64 n, .int .i64 t] w fun e w' => e = .returned (.tuple #[.int .i64 t, .int .i64 0]) ∧ Below w.heap.size w w' := by
  have hd : decide (n ≤ t) = true := by simp [hle]
  go_enter Try.func12, Try.ntmps12
  go_wp2_with fail
  go_step3
  go_wp2_with fail
  go_step3
  go_wp2_with fail
  refine (may_is w.heap.size t true _ h (by simp [go_sem])).mono ?_
  rintro e w2 ⟨rfl, rfl⟩
  go_wp2
  rw [Exit.noGoto_ret]
  go_ret2
  exact ⟨rfl, (Below.refl _ _).alloc (Nat.le_refl _) _⟩

theorem tick_late (n t : Int) (w : World) (h : isT t = true) (hle : ¬ n ≤ t) :
    Calls Try.prog 12 #[.int .i64 n, .int .i64 t] w fun e w' => e = .returned (.tuple #[.int .i64 n, .int .i64 21]) ∧ Below w.heap.size w w' := by
  have hd : decide (n ≤ t) = false := by simp; omega
  go_enter Try.func12, Try.ntmps12
  go_wp2_with fail
  go_step3
  go_wp2_with fail
  go_step3
  go_wp2_with fail
  refine (may_is w.heap.size t true _ h (by simp [go_sem])).mono ?_
  rintro e w2 ⟨rfl, rfl⟩
  go_wp2
  rw [Exit.noGoto_ret]
  go_ret2
  exact ⟨rfl, (Below.refl _ _).alloc (Nat.le_refl _) _⟩

theorem tick_no (n t : Int) (w : World) (h : isT t = false) :
    Calls Try.prog 12 #[.int .i64 n, .int .i64 t] w fun e w' => e = .returned (.tuple #[.int .i64 n, .int .i64 21]) ∧ Below w.heap.size w w' := by
  go_enter Try.func12, Try.ntmps12
  go_wp2_with fail
  go_step3
  go_wp2_with fail
  go_step3
  go_wp2_with fail
  refine (may_is w.heap.size t false _ h (by simp [go_sem])).mono ?_
  rintro e w2 ⟨rfl, rfl⟩
  go_wp2
  rw [Exit.noGoto_ret]
  go_ret2
  exact ⟨rfl, (Below.refl _ _).alloc (Nat.le_refl _) _⟩

theorem tick_any (n t : Int) (w : World) :
    Calls Try.prog 12 #[.int .i64 n, .int .i64 t] w fun e w' => e = .returned (.tuple #[.int .i64 (tiV n t), .int .i64 (tiE n t)]) ∧ Below w.heap.size w w' := by
  cases h : isT t
  · have e : tiB n t = false := by simp [tiB, h]
    have e1 : tiV n t = n := by simp [tiV, e]
    have e2 : tiE n t = 21 := by simp [tiE, e]
    rw [e1, e2]; exact tick_no n t w h
  · by_cases hle : n ≤ t
    · have e : tiB n t = true := by simp [tiB, h, hle]
      have e1 : tiV n t = t := by simp [tiV, e]
      have e2 : tiE n t = 0 := by simp [tiE, e]
      rw [e1, e2]; exact tick_yes n t w h hle
    · have e : tiB n t = false := by simp [tiB, hle]
      have e1 : tiV n t = n := by simp [tiV, e]
      have e2 : tiE n t = 21 := by simp [tiE, e]
      rw [e1, e2]; exact tick_late n t w h hle

/-- 'kept': a number from 0 to most. -/
theorem kept_any (n m : Int) (w : World) (hn : -9223372036854775808 ≤ n ∧ n ≤ 9223372036854775807) (hm0 : 0 ≤ m) (hm1 : m ≤ 1000000000000000) :
    Calls Try.prog 8 #[.int .i64 n, .int .i64 m] w fun e w' => (∃ k : Int, e = .returned (.int .i64 k) ∧ 0 ≤ k ∧ k ≤ m) ∧ w = w' := by
  obtain ⟨n0, n1⟩ := hn
  by_cases h : 0 ≤ n
  · have b0 : 0 ≤ n % (m + 1) := Int.emod_nonneg _ (by omega)
    have b1 : n % (m + 1) < m + 1 := Int.emod_lt_of_pos _ (by omega)
    go_enter Try.func8, Try.ntmps8
    go_wp2
    go_ret
    exact ⟨⟨_, rfl, b0, by omega⟩, rfl⟩
  · have e : n.tmod (m + 1) = -((-n) % (m + 1)) := by
      rw [← Int.tmod_eq_emod_of_nonneg (by omega), Int.neg_tmod, Int.neg_neg]
    have b0 : 0 ≤ (-n) % (m + 1) := Int.emod_nonneg _ (by omega)
    have b1 : (-n) % (m + 1) < m + 1 := Int.emod_lt_of_pos _ (by omega)
    have q0 : -m ≤ n.tmod (m + 1) := by omega
    have q1 : n.tmod (m + 1) ≤ 0 := by omega
    clear e b0 b1
    by_cases hz : n.tmod (m + 1) < 0
    · have hd : decide (n.tmod (m + 1) < 0) = true := by simp [hz]
      go_enter Try.func8, Try.ntmps8
      go_wp2
      go_ret
      exact ⟨⟨_, rfl, by omega, by omega⟩, rfl⟩
    · have hd : decide (n.tmod (m + 1) < 0) = false := by simp; omega
      go_enter Try.func8, Try.ntmps8
      go_wp2
      go_ret
      exact ⟨⟨_, rfl, by omega, by omega⟩, rfl⟩
end Go.Proofs.Ytcmgehfhhnlniaa
