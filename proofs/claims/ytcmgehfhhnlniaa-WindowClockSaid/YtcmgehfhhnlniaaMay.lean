/- The walks over window.may (function 16) on one number and on two: are they times? -/
import Derived.Test.YtcmgehfhhnlniaaRows
import Derived.WalkKit
import Derived.WalkLawsBesides
import Derived.WalkSpells
import Derived.Lib.Hide
import Derived.Handy
namespace Go.Proofs.Ytcmgehfhhnlniaa
open Go.RowKit

/-- Is a number a time? -/
def isT (n : Int) : Bool := decide (0 ≤ n) && decide (n ≤ 1125899906842624)
theorem isT_yes {n : Int} (h0 : 0 ≤ n) (h1 : n ≤ 1125899906842624) : isT n = true := by simp [isT, h0, h1]
theorem isT_low {n : Int} (h0 : n < 0) : isT n = false := by simp [isT]; omega
theorem isT_high {n : Int} (h0 : 1125899906842624 < n) : isT n = false := by simp [isT]; omega
theorem isT_iff {n : Int} : isT n = true ↔ 0 ≤ n ∧ n ≤ 1125899906842624 := by simp [isT]

theorem may_one (b : Nat) (n : Int) (w : World) (hc : w.cell? ⟨b, 0, none⟩ = some (.int .i64 n)) :
    Calls Try.prog 16 #[.slice (some ⟨b, 0, none⟩) 1 1] w fun e w' => e = .returned (.bool (isT n)) ∧ w = w' := by
  by_cases h0 : n < 0
  · have hr := Lib.hid (isT_low h0)
    have hd : decide (n < 0) = true := by simp [h0]
    go_enter Try.func16, Try.ntmps16
    go_wp2
    go_rounds 2
    go_ret
    rw [hr.out]
    exact ⟨rfl, rfl⟩
  · by_cases h1 : 1125899906842624 < n
    · have hr := Lib.hid (isT_high h1)
      have hd : decide (n < 0) = false := by simp; omega
      have hd1 : decide (1125899906842624 < n) = true := by simp [h1]
      go_enter Try.func16, Try.ntmps16
      go_wp2
      go_rounds 2
      go_ret
      rw [hr.out]
      exact ⟨rfl, rfl⟩
    · have hr := Lib.hid (isT_yes (n := n) (by omega) (by omega))
      have hd : decide (n < 0) = false := by simp; omega
      have hd1 : decide (1125899906842624 < n) = false := by simp; omega
      go_enter Try.func16, Try.ntmps16
      go_wp2
      go_rounds 2
      go_ret
      rw [hr.out]
      exact ⟨rfl, rfl⟩

theorem isT_cases (n : Int) : (n < 0 ∧ isT n = false) ∨ ((0 ≤ n ∧ 1125899906842624 < n) ∧ isT n = false) ∨ ((0 ≤ n ∧ n ≤ 1125899906842624) ∧ isT n = true) := by
  by_cases h0 : n < 0
  · exact .inl ⟨h0, isT_low h0⟩
  · by_cases h1 : 1125899906842624 < n
    · exact .inr (.inl ⟨⟨by omega, h1⟩, isT_high h1⟩)
    · exact .inr (.inr ⟨⟨by omega, by omega⟩, isT_yes (by omega) (by omega)⟩)

theorem may_two (b : Nat) (n m : Int) (w : World) (hc : w.cell? ⟨b, 0, none⟩ = some (.int .i64 n)) (hc1 : w.cell? ⟨b, 1, none⟩ = some (.int .i64 m)) :
    Calls Try.prog 16 #[.slice (some ⟨b, 0, none⟩) 2 2] w fun e w' => e = .returned (.bool (isT n && isT m)) ∧ w = w' := by
  rcases isT_cases n with ⟨h0, hn⟩ | ⟨⟨h0, h1⟩, hn⟩ | ⟨⟨h0, h1⟩, hn⟩
  · have hr := Lib.hid (show (isT n && isT m) = false by rw [hn]; rfl)
    have hd : decide (n < 0) = true := by simp [h0]
    clear hn
    go_enter Try.func16, Try.ntmps16
    go_wp2
    go_rounds 3
    go_ret
    rw [hr.out]
    exact ⟨rfl, rfl⟩
  · have hr := Lib.hid (show (isT n && isT m) = false by rw [hn]; rfl)
    have hd : decide (n < 0) = false := by simp; omega
    have hd1 : decide (1125899906842624 < n) = true := by simp [h1]
    clear hn
    go_enter Try.func16, Try.ntmps16
    go_wp2
    go_rounds 3
    go_ret
    rw [hr.out]
    exact ⟨rfl, rfl⟩
  · have hd : decide (n < 0) = false := by simp; omega
    have hd1 : decide (1125899906842624 < n) = false := by simp; omega
    rcases isT_cases m with ⟨k0, hm⟩ | ⟨⟨k0, k1⟩, hm⟩ | ⟨⟨k0, k1⟩, hm⟩
    · have hr := Lib.hid (show (isT n && isT m) = false by rw [hn, hm]; rfl)
      have hd2 : decide (m < 0) = true := by simp [k0]
      clear hn hm
      go_enter Try.func16, Try.ntmps16
      go_wp2
      go_rounds 3
      go_ret
      rw [hr.out]
      exact ⟨rfl, rfl⟩
    · have hr := Lib.hid (show (isT n && isT m) = false by rw [hn, hm]; rfl)
      have hd2 : decide (m < 0) = false := by simp; omega
      have hd3 : decide (1125899906842624 < m) = true := by simp [k1]
      clear hn hm
      go_enter Try.func16, Try.ntmps16
      go_wp2
      go_rounds 3
      go_ret
      rw [hr.out]
      exact ⟨rfl, rfl⟩
    · have hr := Lib.hid (show (isT n && isT m) = true by rw [hn, hm]; rfl)
      have hd2 : decide (m < 0) = false := by simp; omega
      have hd3 : decide (1125899906842624 < m) = false := by simp; omega
      clear hn hm
      go_enter Try.func16, Try.ntmps16
      go_wp2
      go_rounds 3
      go_ret
      rw [hr.out]
      exact ⟨rfl, rfl⟩

/-- Does so many widths fit? -/
def fits (n m : Int) : Bool := isT m && decide (0 < m) && decide (n ≤ 1125899906842624 / m)
end Go.Proofs.Ytcmgehfhhnlniaa
