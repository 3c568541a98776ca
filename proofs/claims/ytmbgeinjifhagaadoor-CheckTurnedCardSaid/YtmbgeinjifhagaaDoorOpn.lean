/- What Open answers, in one word for the code and the document (functions 16, 17). -/
import Derived.Test.YtmbgeinjifhagaaDoorAwake
namespace Go.Proofs.YtmbgeinjifhagaaDoor
open Go.RowKit

/-- Is there anything to be opened? What is it? -/
def opB (s : ByteArray) : Bool := decide (4 ≤ s.size) && isWhole s.data.toList
def opS (s : ByteArray) : ByteArray := if opB s = true then s.extract 0 (s.size - 4) else ⟨#[]⟩

theorem open_any (s : ByteArray) (w : World) (ht : TabOk w) (hs : s.size ≤ maxLen) :
    Calls Tryd.prog 16 #[.string s] w fun e w' => e = .returned (.tuple #[.string (opS s), .bool (opB s)]) ∧ Below w.heap.size w w' := by
  by_cases h : 4 ≤ s.size
  · cases hw : isWhole s.data.toList
    · have h1 : opB s = false := by simp [opB, hw]
      have h2 : opS s = ⟨#[]⟩ := by unfold opS; rw [if_neg (by simp [h1])]
      rw [h1, h2]
      exact open_not s w ht hs h hw
    · have h1 : opB s = true := by simp [opB, hw, h]
      have h2 : opS s = s.extract 0 (s.size - 4) := by unfold opS; rw [if_pos h1]
      rw [h1, h2]
      exact open_whole s w ht hs h hw
  · have h1 : opB s = false := by simp [opB, h]
    have h2 : opS s = ⟨#[]⟩ := by unfold opS; rw [if_neg (by simp [h1])]
    rw [h1, h2]
    exact open_short s w (by omega)

theorem refopen_any (s : ByteArray) (w : World) (hs : s.size ≤ 1000) :
    Calls Tryd.prog 17 #[.string s] w fun e w' => e = .returned (.tuple #[.string (opS s), .bool (opB s)]) ∧ Below w.heap.size w w' := by
  by_cases h : 4 ≤ s.size
  · cases hw : isWhole s.data.toList
    · have h1 : opB s = false := by simp [opB, hw]
      have h2 : opS s = ⟨#[]⟩ := by unfold opS; rw [if_neg (by simp [h1])]
      rw [h1, h2]
      exact refopen_not s w hs h hw
    · have h1 : opB s = true := by simp [opB, hw, h]
      have h2 : opS s = s.extract 0 (s.size - 4) := by unfold opS; rw [if_pos h1]
      rw [h1, h2]
      exact refopen_whole s w hs h hw
  · have h1 : opB s = false := by simp [opB, h]
    have h2 : opS s = ⟨#[]⟩ := by unfold opS; rw [if_neg (by simp [h1])]
    rw [h1, h2]
    exact refopen_short s w (by omega)

/-- The sealed text, as the code's value. -/
def sealS (s : ByteArray) : ByteArray := ⟨(Crc.sealed s.data.toList).toArray⟩
theorem sealS_size (s : ByteArray) : (sealS s).size = s.size + 4 := by
  have hl : s.data.toList.length = s.size := by simp
  show (Crc.sealed s.data.toList).toArray.size = s.size + 4
  simp [Crc.sealed, Crc.four]
theorem sealS_of (s : ByteArray) : Crc.of (sealS s).data.toList = 558161692 := by
  unfold sealS; exact Crc.of_sealed _
theorem sealS_whole (s : ByteArray) : isWhole (sealS s).data.toList = true := by
  unfold isWhole; exact decide_eq_true (sealS_of s)
theorem sealS_opB (s : ByteArray) : opB (sealS s) = true := by
  unfold opB; rw [sealS_whole, sealS_size]; simp
theorem sealS_opS (s : ByteArray) : opS (sealS s) = s := by
  unfold opS
  rw [if_pos (sealS_opB s), sealS_size]
  have hl : s.data.toList.length = s.size := by simp
  apply ByteArray.ext
  apply Array.toList_inj.1
  rw [extract_take, show s.size + 4 - 4 = s.data.toList.length from by omega]
  show (Crc.sealed s.data.toList).take _ = _
  unfold Crc.sealed
  exact List.take_left
/-- A text of four bytes and more is whole just if it is the sealed text of what stands ahead of its last four. -/
theorem sealS_iff (s : ByteArray) (h : 4 ≤ s.size) : (sealS (s.extract 0 (s.size - 4)) = s) ↔ isWhole s.data.toList = true := by
  constructor
  · intro he
    cases hw : isWhole s.data.toList
    · exact absurd he (not_sealed_of s h hw)
    · rfl
  · exact fun hw => sealed_of s h hw

theorem seal_call (s : ByteArray) (w : World) (ht : TabOk w) (hs : s.size ≤ 1000) :
    Calls Tryd.prog 18 #[.string s] w fun e w' => e = .returned (.string (sealS s)) ∧ Below w.heap.size w w' := seal_any s w ht hs
theorem refseal_call (s : ByteArray) (w : World) (hs : s.size ≤ 1000) :
    Calls Tryd.prog 19 #[.string s] w fun e w' => e = .returned (.string (sealS s)) ∧ Below w.heap.size w w' := refseal_any s w hs
end Go.Proofs.YtmbgeinjifhagaaDoor
