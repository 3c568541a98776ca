/- The walks over the closure of window.times (function 18), whose one statement leaves its order open: does so many widths fit? -/
import Derived.Test.YtcmgehfhhnlniaaMay
import Derived.Deep.RegionWith
import Derived.Handy
namespace Go.Proofs.Ytcmgehfhhnlniaa
open Go.RowKit

theorem may_is (b : Nat) (n : Int) (v : Bool) (w : World) (hv : isT n = v) (hc : w.cell? ⟨b, 0, none⟩ = some (.int .i64 n)) :
    Calls Try.prog 16 #[.slice (some ⟨b, 0, none⟩) 1 1] w fun e w' => e = .returned (.bool v) ∧ w = w' := by
  rw [← hv]; exact may_one b n w hc

theorem in_heap {w : World} {b : Nat} {v : Value} (hw : w.cell? ⟨b, 0, none⟩ = some v) : b < w.heap.size := by
  rcases Nat.lt_or_ge b w.heap.size with h' | h'
  · exact h'
  · simp [World.cell?, h'] at hw

theorem fits_no (bw bn : Nat) (n m : Int) (w : World) (hw : w.cell? ⟨bw, 0, none⟩ = some (.int .i64 m)) (_hn : w.cell? ⟨bn, 0, none⟩ = some (.int .i64 n)) (h : isT m = false) :
    Calls Try.prog 18 #[.pointer (some ⟨bw, 0, none⟩), .pointer (some ⟨bn, 0, none⟩)] w fun e w' => e = .returned (.bool false) ∧ Below w.heap.size w w' := by
  have hlt := in_heap hw
  go_enter Try.func18, Try.ntmps18
  go_wp2_with fail
  go_region_with (go_at_call 16; refine (may_is _ m false _ h ?_).mono ?_; simp [go_sem]; rintro e w' ⟨rfl, rfl⟩)
  all_goals go_wp2
  all_goals go_ret
  all_goals refine ⟨rfl, ?_⟩
  all_goals go_grown

theorem fits_zero (bw bn : Nat) (n m : Int) (w : World) (hw : w.cell? ⟨bw, 0, none⟩ = some (.int .i64 m)) (_hn : w.cell? ⟨bn, 0, none⟩ = some (.int .i64 n)) (h : isT m = true) (h0 : ¬ 0 < m) :
    Calls Try.prog 18 #[.pointer (some ⟨bw, 0, none⟩), .pointer (some ⟨bn, 0, none⟩)] w fun e w' => e = .returned (.bool false) ∧ Below w.heap.size w w' := by
  have hlt := in_heap hw
  have hd : decide (0 < m) = false := by simp [h0]
  go_enter Try.func18, Try.ntmps18
  go_wp2_with fail
  go_region_with (go_at_call 16; refine (may_is _ m true _ h ?_).mono ?_; simp [go_sem]; rintro e w' ⟨rfl, rfl⟩)
  all_goals go_wp2
  all_goals go_ret
  all_goals refine ⟨rfl, ?_⟩
  all_goals go_grown

theorem fits_yes (bw bn : Nat) (n m : Int) (w : World) (hw : w.cell? ⟨bw, 0, none⟩ = some (.int .i64 m)) (hn : w.cell? ⟨bn, 0, none⟩ = some (.int .i64 n)) (h : isT m = true) (h0 : 0 < m) (v : Bool) (hv : decide (n ≤ 1125899906842624 / m) = v) :
    Calls Try.prog 18 #[.pointer (some ⟨bw, 0, none⟩), .pointer (some ⟨bn, 0, none⟩)] w fun e w' => e = .returned (.bool v) ∧ Below w.heap.size w w' := by
  have hlt := in_heap hw
  have hlt2 := in_heap hn
  have hd : decide (0 < m) = true := by simp [h0]
  have hz : (m == 0) = false := by simp; omega
  have hm : m ≤ 1125899906842624 := (isT_iff.1 h).2
  go_enter Try.func18, Try.ntmps18
  go_wp2_with fail
  go_region_with (go_at_call 16; refine (may_is _ m true _ h ?_).mono ?_; simp [go_sem]; rintro e w' ⟨rfl, rfl⟩)
  all_goals go_wp2
  all_goals go_ret
  all_goals refine ⟨rfl, ?_⟩
  all_goals go_grown

/-- The closure of 'times': do so many widths fit? -/
theorem fits_any (bw bn : Nat) (n m : Int) (w : World) (hw : w.cell? ⟨bw, 0, none⟩ = some (.int .i64 m)) (hn : w.cell? ⟨bn, 0, none⟩ = some (.int .i64 n)) :
    Calls Try.prog 18 #[.pointer (some ⟨bw, 0, none⟩), .pointer (some ⟨bn, 0, none⟩)] w fun e w' => e = .returned (.bool (fits n m)) ∧ Below w.heap.size w w' := by
  cases h : isT m
  · have e : fits n m = false := by simp [fits, h]
    rw [e]; exact fits_no bw bn n m w hw hn h
  · by_cases h0 : 0 < m
    · have e : fits n m = decide (n ≤ 1125899906842624 / m) := by simp [fits, h, h0]
      rw [e]; exact fits_yes bw bn n m w hw hn h h0 _ rfl
    · have e : fits n m = false := by simp [fits, h, h0]
      rw [e]; exact fits_zero bw bn n m w hw hn h h0

end Go.Proofs.Ytcmgehfhhnlniaa
