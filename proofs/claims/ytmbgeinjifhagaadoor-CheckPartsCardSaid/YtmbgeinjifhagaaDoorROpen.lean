/- The walks over the document's Open (function 17). -/
import Derived.Test.YtmbgeinjifhagaaDoorSeal
import Derived.Lib.Strings
namespace Go.Proofs.YtmbgeinjifhagaaDoor
open Go.RowKit

theorem beq_no {q s : ByteArray} (h : q ≠ s) : (q.toList == s.toList) = false := by
  rw [Lib.toList_data, Lib.toList_data, beq_eq_false_iff_ne]
  intro he
  exact h (ByteArray.ext (Array.toList_inj.1 he))
theorem refopen_short (s : ByteArray) (w : World) (h : s.size < 4) :
    Calls Tryd.prog 17 #[.string s] w fun e w' => e = .returned (.tuple #[.string ⟨#[]⟩, .bool false]) ∧ Below w.heap.size w w' := by
  have hd : decide ((s.size : Int) < 4) = true := by simp; omega
  go_enter Tryd.func17, Tryd.ntmps17
  go_wp2
  go_ret2
  exact ⟨rfl, Below.refl _ _⟩

theorem extract_take (s : ByteArray) (m : Nat) : (s.extract 0 m).data.toList = s.data.toList.take m := by
  simp [ByteArray.data_extract]
theorem sealed_of (s : ByteArray) (h : 4 ≤ s.size) (hw : isWhole s.data.toList = true) : (⟨(Crc.sealed (s.extract 0 (s.size - 4)).data.toList).toArray⟩ : ByteArray) = s := by
  have hl : s.data.toList.length = s.size := by simp
  apply ByteArray.ext
  apply Array.toList_inj.1
  rw [extract_take, ← hl]
  exact (Crc.whole_iff s.data.toList (by omega)).1 (by simpa [isWhole] using hw)
theorem not_sealed_of (s : ByteArray) (h : 4 ≤ s.size) (hw : isWhole s.data.toList = false) : (⟨(Crc.sealed (s.extract 0 (s.size - 4)).data.toList).toArray⟩ : ByteArray) ≠ s := by
  have hl : s.data.toList.length = s.size := by simp
  intro he
  have h2 : isWhole s.data.toList = true := by
    unfold isWhole
    apply decide_eq_true
    refine (Crc.whole_iff s.data.toList (by omega)).2 ?_
    rw [hl, ← extract_take]
    have := congrArg (fun b : ByteArray => b.data.toList) he
    exact this
  rw [hw] at h2
  cases h2

theorem refopen_not (s : ByteArray) (w : World) (hs : s.size ≤ 1000) (h : 4 ≤ s.size) (hw : isWhole s.data.toList = false) :
    Calls Tryd.prog 17 #[.string s] w fun e w' => e = .returned (.tuple #[.string ⟨#[]⟩, .bool false]) ∧ Below w.heap.size w w' := by
  have hd : decide ((s.size : Int) < 4) = false := by simp; omega
  have hne := Lib.hid (not_sealed_of s h hw)
  go_enter Tryd.func17, Tryd.ntmps17
  go_wp2_with fail
  refine (refseal_any (s.extract 0 (s.size - 4)) _ (by simp; omega)).mono ?_
  rintro e w' ⟨rfl, hb⟩
  have hne2 := beq_no hne.out
  generalize (⟨(Crc.sealed (s.extract 0 (s.size - 4)).data.toList).toArray⟩ : ByteArray) = q at *
  go_wp2
  go_ret2
  exact ⟨rfl, hb⟩
theorem refopen_whole (s : ByteArray) (w : World) (hs : s.size ≤ 1000) (h : 4 ≤ s.size) (hw : isWhole s.data.toList = true) :
    Calls Tryd.prog 17 #[.string s] w fun e w' => e = .returned (.tuple #[.string (s.extract 0 (s.size - 4)), .bool true]) ∧ Below w.heap.size w w' := by
  have hd : decide ((s.size : Int) < 4) = false := by simp; omega
  have hne := Lib.hid (sealed_of s h hw)
  go_enter Tryd.func17, Tryd.ntmps17
  go_wp2_with fail
  refine (refseal_any (s.extract 0 (s.size - 4)) _ (by simp; omega)).mono ?_
  rintro e w' ⟨rfl, hb⟩
  rw [hne.out]
  go_wp2
  go_ret2
  exact ⟨rfl, hb⟩
end Go.Proofs.YtmbgeinjifhagaaDoor
