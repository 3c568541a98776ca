/- What package window's functions tell, and the walks over Begin, End, Of (functions 10, 11, 9). -/
import Derived.Test.YtcmgehfhhnlniaaTimes
namespace Go.Proofs.Ytcmgehfhhnlniaa
open Go.RowKit

/-- What the functions of package window tell. -/
def ofF (t m : Int) : Int := if isT t = true ∧ isT m = true ∧ m ≠ 0 then t / m else -1
def beB (w m : Int) : Bool := isT w && fits w m
def beV (w m : Int) : Int := if beB w m = true then w * m else 0
def enB (w m : Int) : Bool := isT w && fits (w + 1) m
def enV (w m : Int) : Int := if enB w m = true then (w + 1) * m else 0
def duB (w m t : Int) : Bool := enB w m && isT t && isT (enV w m + t)
def duV (w m t : Int) : Int := if duB w m t = true then enV w m + t else 0
def clB (w m n : Int) : Bool := enB w m && isT n && decide (enV w m ≤ n)
def exB (w m t n : Int) : Bool := duB w m t && isT n && decide (duV w m t ≤ n)
def tiB (n t : Int) : Bool := isT t && decide (n ≤ t)
def tiV (n t : Int) : Int := if tiB n t = true then t else n
def tiE (n t : Int) : Int := if tiB n t = true then 0 else 21

theorem begin_any (n m : Int) (w : World) :
    Calls Try.prog 10 #[.int .i64 n, .int .i64 m] w fun e w' => e = .returned (.tuple #[.int .i64 (beV n m), .bool (beB n m)]) ∧ Below w.heap.size w w' := by
  cases h : isT n
  · have e1 : beB n m = false := by simp [beB, h]
    have e2 : beV n m = 0 := by simp [beV, e1]
    rw [e1, e2]
    clear e1 e2
    go_enter Try.func10, Try.ntmps10
    go_wp2_with fail
    refine (may_is w.heap.size n false _ h (by simp [go_sem])).mono ?_
    rintro e w1 ⟨rfl, rfl⟩
    go_wp2
    go_ret2
    exact ⟨rfl, (Below.refl _ _).alloc (Nat.le_refl _) _⟩
  · have e1 : beB n m = tmB n m := by simp [beB, tmB, h]
    have e2 : beV n m = tmV n m := by simp [beV, tmV, beB, h]
    have h0 := (isT_iff.1 h).1
    rw [e1, e2]
    clear e1 e2
    go_enter Try.func10, Try.ntmps10
    go_wp2_with fail
    refine (may_is w.heap.size n true _ h (by simp [go_sem])).mono ?_
    rintro e w1 ⟨rfl, rfl⟩
    go_wp2_with fail
    refine (times_any n m _ h0).mono ?_
    rintro e w1 ⟨rfl, hb1⟩
    go_wp2
    go_ret2
    exact ⟨rfl, ((Below.refl _ _).alloc (Nat.le_refl _) _).trans (hb1.mono (by simp))⟩

theorem end_any (n m : Int) (w : World) :
    Calls Try.prog 11 #[.int .i64 n, .int .i64 m] w fun e w' => e = .returned (.tuple #[.int .i64 (enV n m), .bool (enB n m)]) ∧ Below w.heap.size w w' := by
  cases h : isT n
  · have e1 : enB n m = false := by simp [enB, h]
    have e2 : enV n m = 0 := by simp [enV, e1]
    rw [e1, e2]
    clear e1 e2
    go_enter Try.func11, Try.ntmps11
    go_wp2_with fail
    refine (may_is w.heap.size n false _ h (by simp [go_sem])).mono ?_
    rintro e w1 ⟨rfl, rfl⟩
    go_wp2
    go_ret2
    exact ⟨rfl, (Below.refl _ _).alloc (Nat.le_refl _) _⟩
  · have e1 : enB n m = tmB (n + 1) m := by simp [enB, tmB, h]
    have e2 : enV n m = tmV (n + 1) m := by simp [enV, tmV, enB, h]
    have h0 := (isT_iff.1 h).1
    have h1 := (isT_iff.1 h).2
    rw [e1, e2]
    clear e1 e2
    go_enter Try.func11, Try.ntmps11
    go_wp2_with fail
    refine (may_is w.heap.size n true _ h (by simp [go_sem])).mono ?_
    rintro e w1 ⟨rfl, rfl⟩
    go_wp2_with fail
    refine (times_any (n + 1) m _ (by omega)).mono ?_
    rintro e w1 ⟨rfl, hb1⟩
    go_wp2
    go_ret2
    exact ⟨rfl, ((Below.refl _ _).alloc (Nat.le_refl _) _).trans (hb1.mono (by simp))⟩

theorem enV_bd (n m : Int) : 0 ≤ enV n m ∧ enV n m ≤ 1125899906842624 := by
  unfold enV
  split
  · rename_i h
    have h' : isT n = true ∧ fits (n + 1) m = true := by simpa [enB] using h
    exact fits_mul (by have := (isT_iff.1 h'.1).1; omega) h'.2
  · omega
theorem duV_bd (n m t : Int) : 0 ≤ duV n m t ∧ duV n m t ≤ 1125899906842624 := by
  unfold duV
  split
  · rename_i h
    have h' : (enB n m = true ∧ isT t = true) ∧ isT (enV n m + t) = true := by simpa [duB] using h
    exact isT_iff.1 h'.2
  · omega

theorem of_any (t m : Int) (w : World) :
    Calls Try.prog 9 #[.int .i64 t, .int .i64 m] w fun e w' => e = .returned (.int .i64 (ofF t m)) ∧ Below w.heap.size w w' := by
  cases h : isT t && isT m
  · have e1 : Hid (ofF t m = -1) := by
      unfold Hid ofF
      rw [if_neg (fun hh => by rw [hh.1, hh.2.1] at h; cases h)]
    have MC := Lib.hid (fun u h0 h1 => may_two w.heap.size t m u h0 h1)
    rw [h] at MC
    go_enter Try.func9, Try.ntmps9
    go_wp2_with fail
    refine (MC.out _ (by simp [go_sem]) (by simp [go_sem])).mono ?_
    rintro e w1 ⟨rfl, rfl⟩
    go_wp2
    go_ret
    rw [e1.out]
    exact ⟨rfl, (Below.refl _ _).alloc (Nat.le_refl _) _⟩
  · have MC := Lib.hid (fun u h0 h1 => may_two w.heap.size t m u h0 h1)
    have h' : isT t = true ∧ isT m = true := by simpa using h
    rw [h] at MC
    clear h
    have h1 := isT_iff.1 h'.1
    have h2 := isT_iff.1 h'.2
    by_cases hm : m = 0
    · have e1 : Hid (ofF t m = -1) := by
        unfold Hid ofF
        rw [if_neg (fun hh => hh.2.2 hm)]
      have hz : (m == 0) = true := by simp [hm]
      clear hm
      go_enter Try.func9, Try.ntmps9
      go_wp2_with fail
      refine (MC.out _ (by simp [go_sem]) (by simp [go_sem])).mono ?_
      rintro e w1 ⟨rfl, rfl⟩
      go_wp2
      go_ret
      rw [e1.out]
      exact ⟨rfl, (Below.refl _ _).alloc (Nat.le_refl _) _⟩
    · have e1 : Hid (ofF t m = t / m) := by
        unfold Hid ofF
        rw [if_pos ⟨h'.1, h'.2, hm⟩]
      have hz : (m == 0) = false := by simp [hm]
      have hm1 : 1 ≤ m := by omega
      obtain ⟨a0, a1⟩ := h1
      obtain ⟨b0, b1⟩ := h2
      clear h'
      go_enter Try.func9, Try.ntmps9
      go_wp2_with fail
      refine (MC.out _ (by simp [go_sem]) (by simp [go_sem])).mono ?_
      rintro e w1 ⟨rfl, rfl⟩
      go_wp2
      go_ret
      rw [e1.out]
      exact ⟨rfl, (Below.refl _ _).alloc (Nat.le_refl _) _⟩
end Go.Proofs.Ytcmgehfhhnlniaa
