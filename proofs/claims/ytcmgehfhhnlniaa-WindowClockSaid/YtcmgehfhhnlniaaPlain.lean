/- Plain facts about windows: what the four laws lean on. No walk in it. -/
import Derived.Test.YtcmgehfhhnlniaaTick
namespace Go.Proofs.Ytcmgehfhhnlniaa

theorem fits_of {n m : Int} (h0 : 0 < m) (h1 : m ≤ 1125899906842624) (h : n * m ≤ 1125899906842624) : fits n m = true :=
  fits_iff.2 ⟨h0, h1, Int.le_ediv_of_mul_le h0 h⟩

theorem beB_iff {w m : Int} : beB w m = true ↔ (0 ≤ w ∧ w ≤ 1125899906842624) ∧ fits w m = true := by
  simp only [beB, Bool.and_eq_true, isT_iff]
theorem enB_iff {w m : Int} : enB w m = true ↔ (0 ≤ w ∧ w ≤ 1125899906842624) ∧ fits (w + 1) m = true := by
  simp only [enB, Bool.and_eq_true, isT_iff]
theorem beV_pos {w m : Int} (h : beB w m = true) : beV w m = w * m := by unfold beV; rw [if_pos h]
theorem enV_pos {w m : Int} (h : enB w m = true) : enV w m = (w + 1) * m := by unfold enV; rw [if_pos h]
theorem beV_bd (n m : Int) : 0 ≤ beV n m ∧ beV n m ≤ 1125899906842624 := by
  unfold beV
  split
  · rename_i h
    obtain ⟨h1, h2⟩ := beB_iff.1 h
    exact fits_mul h1.1 h2
  · omega

/-- A time's window: what the law 'WindowApart' asks of it. -/
theorem apart (a b : Int) (a0 : 0 ≤ a) (a1 : a ≤ 1099511627776) (b0 : 1 ≤ b) (b1 : b ≤ 1048577) :
    ∃ k B E : Int, ofF a b = k ∧ beB k b = true ∧ enB k b = true ∧ beV k b = B ∧ enV k b = E ∧ B ≤ a ∧ a < E ∧ E - B = b ∧
      ∀ w, beB w b = true → enB w b = true → ((beV w b ≤ a ∧ a < enV w b) ↔ w = k) := by
  have hk0 : 0 ≤ a / b := Int.ediv_nonneg a0 (by omega)
  have hk1 : a / b ≤ a := Int.ediv_le_self b a0
  have hm : a / b * b ≤ a := Int.ediv_mul_le a (by omega)
  have hl : a < (a / b + 1) * b := by
    have := Int.lt_ediv_add_one_mul_self a (show 0 < b by omega)
    exact this
  have he : (a / b + 1) * b = a / b * b + b := by rw [Int.add_mul, Int.one_mul]
  have f1 : fits (a / b) b = true := fits_of (by omega) (by omega) (by omega)
  have f2 : fits (a / b + 1) b = true := fits_of (by omega) (by omega) (by omega)
  have hB : beB (a / b) b = true := beB_iff.2 ⟨⟨hk0, by omega⟩, f1⟩
  have hE : enB (a / b) b = true := enB_iff.2 ⟨⟨hk0, by omega⟩, f2⟩
  refine ⟨a / b, a / b * b, (a / b + 1) * b, ?_, hB, hE, beV_pos hB, enV_pos hE, hm, hl, by omega, ?_⟩
  · unfold ofF
    rw [if_pos ⟨isT_yes a0 (by omega), isT_yes (by omega) (by omega), by omega⟩]
  · intro w hwb hwe
    rw [beV_pos hwb, enV_pos hwe]
    constructor
    · rintro ⟨h1, h2⟩
      have l1 : w ≤ a / b := Int.le_ediv_of_mul_le (by omega) h1
      have l2 : a / b < w + 1 := Int.ediv_lt_of_lt_mul (by omega) h2
      omega
    · rintro rfl
      exact ⟨hm, hl⟩

end Go.Proofs.Ytcmgehfhhnlniaa
