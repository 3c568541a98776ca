/- Plain facts about windows, for the laws of what lasts and what comes next. No walk in it. -/
import Derived.Test.YtcmgehfhhnlniaaPlain
namespace Go.Proofs.Ytcmgehfhhnlniaa

theorem clB_iff {w m n : Int} : clB w m n = true ↔ enB w m = true ∧ (0 ≤ n ∧ n ≤ 1125899906842624) ∧ enV w m ≤ n := by
  simp only [clB, Bool.and_eq_true, isT_iff, decide_eq_true_eq, and_assoc]
theorem duB_iff {w m t : Int} : duB w m t = true ↔ enB w m = true ∧ (0 ≤ t ∧ t ≤ 1125899906842624) ∧ (0 ≤ enV w m + t ∧ enV w m + t ≤ 1125899906842624) := by
  simp only [duB, Bool.and_eq_true, isT_iff, and_assoc]
theorem duV_pos {w m t : Int} (h : duB w m t = true) : duV w m t = enV w m + t := by unfold duV; rw [if_pos h]
theorem exB_iff {w m t n : Int} : exB w m t n = true ↔ duB w m t = true ∧ (0 ≤ n ∧ n ≤ 1125899906842624) ∧ enV w m + t ≤ n := by
  simp only [exB, Bool.and_eq_true, isT_iff, decide_eq_true_eq]
  constructor
  · rintro ⟨⟨h1, h2⟩, h3⟩
    exact ⟨h1, h2, by rw [← duV_pos h1]; exact h3⟩
  · rintro ⟨h1, h2, h3⟩
    exact ⟨⟨h1, h2⟩, by rw [duV_pos h1]; exact h3⟩

theorem lasts_closed {w b s t : Int} (h : exB w b s t = true) : clB w b t = true := by
  obtain ⟨h1, h2, h3⟩ := exB_iff.1 h
  obtain ⟨k1, k2, k3⟩ := duB_iff.1 h1
  exact clB_iff.2 ⟨k1, h2, by omega⟩
theorem lasts_later {w b s t u : Int} (h : exB w b s t = true) (hu : t ≤ u) (hu2 : u ≤ 1125899906842624) : exB w b s u = true := by
  obtain ⟨h1, h2, h3⟩ := exB_iff.1 h
  exact exB_iff.2 ⟨h1, by omega, by omega⟩
theorem lasts_sooner {w b s l t : Int} (h : exB w b l t = true) (hs : 0 ≤ s) (hl : s ≤ l) : exB w b s t = true := by
  obtain ⟨h1, h2, h3⟩ := exB_iff.1 h
  obtain ⟨k1, k2, k3⟩ := duB_iff.1 h1
  have := enV_bd w b
  exact exB_iff.2 ⟨duB_iff.2 ⟨k1, by omega, by omega⟩, h2, by omega⟩
theorem lasts_of {w b t : Int} (h : clB w b t = true) : w < ofF t b := by
  obtain ⟨h1, h2, h3⟩ := clB_iff.1 h
  have hv := enV_pos h1
  obtain ⟨k1, k2⟩ := enB_iff.1 h1
  obtain ⟨m1, m2, m3⟩ := fits_iff.1 k2
  unfold ofF
  rw [if_pos ⟨isT_yes h2.1 h2.2, isT_yes (by omega) m2, by omega⟩]
  have : w + 1 ≤ t / b := Int.le_ediv_of_mul_le m1 (by omega)
  omega

theorem next_begin {w m : Int} (h : enB w m = true) (hw : w < 1125899906842624) : beB (w + 1) m = true ∧ beV (w + 1) m = enV w m := by
  obtain ⟨k1, k2⟩ := enB_iff.1 h
  have hb : beB (w + 1) m = true := beB_iff.2 ⟨⟨by omega, by omega⟩, k2⟩
  exact ⟨hb, by rw [beV_pos hb, enV_pos h]⟩
theorem begin_zero {m : Int} : beV 0 m = 0 := by
  unfold beV
  split <;> simp
theorem zero_there {w m : Int} (h : enB w m = true) : beB 0 m = true := by
  obtain ⟨_, k2⟩ := enB_iff.1 h
  obtain ⟨m1, m2, m3⟩ := fits_iff.1 k2
  exact beB_iff.2 ⟨⟨by omega, by omega⟩, fits_of m1 m2 (by omega)⟩
theorem enB_high {w m : Int} (h : 1125899906842624 < w) : enB w m = false := by
  cases he : enB w m
  · rfl
  · have := (enB_iff.1 he).1; omega
theorem duB_no {w m t : Int} (h : enB w m = false) : duB w m t = false := by simp [duB, h]
end Go.Proofs.Ytcmgehfhhnlniaa
