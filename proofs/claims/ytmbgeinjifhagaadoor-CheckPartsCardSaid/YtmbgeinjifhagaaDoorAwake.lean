/- The walks over the laws' short and awake (functions 11, 10). -/
import Derived.Test.YtmbgeinjifhagaaDoorROpen
namespace Go.Proofs.YtmbgeinjifhagaaDoor
open Go.RowKit

theorem short_any (s : ByteArray) (n : Nat) (hn : n ≤ 1000) (hs : s.size ≤ maxLen) (w : World) :
    Calls Tryd.prog 11 #[.string s, .int .i64 n] w fun e w' => ∃ r, e = .returned (.string r) ∧ r.size ≤ n ∧ w = w' := by
  have hm : s.size ≤ 9223372036854775807 := by unfold maxLen at hs; omega
  by_cases h : n < s.size
  · have hd : decide ((n : Int) < (s.size : Int)) = true := by simp; omega
    go_enter Tryd.func11, Tryd.ntmps11
    go_wp2
    go_ret
    exact ⟨_, rfl, by simp; omega, rfl⟩
  · have hd : decide ((n : Int) < (s.size : Int)) = false := by simp; omega
    go_enter Tryd.func11, Tryd.ntmps11
    go_wp2
    go_ret
    exact ⟨_, rfl, by omega, rfl⟩

theorem w1 : isWhole (⟨#[0, 0, 0, 0]⟩ : ByteArray).data.toList = true := by decide +kernel
theorem w2 : Crc.of ((⟨#[49, 50, 51, 52]⟩ : ByteArray).data.toList ++ (⟨#[53, 54, 55, 56, 57]⟩ : ByteArray).data.toList) = 3421780262 := by decide +kernel
theorem w3 : (⟨(Crc.sealed (⟨#[]⟩ : ByteArray).data.toList).toArray⟩ : ByteArray) = ⟨#[0, 0, 0, 0]⟩ := by
  apply ByteArray.ext
  apply Array.toList_inj.1
  decide +kernel
theorem w4 : (⟨#[0, 0, 0, 0]⟩ : ByteArray).extract 0 ((⟨#[0, 0, 0, 0]⟩ : ByteArray).size - 4) = ⟨#[]⟩ := by
  apply ByteArray.ext
  apply Array.toList_inj.1
  decide +kernel

theorem awake_any (w : World) (ht : TabOk w) :
    Calls Tryd.prog 10 #[] w fun e w' => e = .returned (.bool true) ∧ Below w.heap.size w w' := by
  have ht1 := Lib.hid (fun o => tab_alloc ht o)
  have W1 := Lib.hid w1
  have W2 := Lib.hid w2
  have W3 := Lib.hid w3
  have W4 := Lib.hid w4
  go_enter Tryd.func10, Tryd.ntmps10
  go_wp2_with fail
  refine (open_whole ⟨#[0, 0, 0, 0]⟩ w ht (by decide) (by decide) W1.out).mono ?_
  rintro e w1 ⟨rfl, hb1⟩
  rw [W4.out]
  have ht1 := Lib.hid (tab_below ht hb1)
  go_wp2_with fail
  refine (of_none w1).mono ?_
  rintro e w2 ⟨rfl, rfl⟩
  go_wp2_with fail
  refine (of_two w1.heap.size ⟨#[49, 50, 51, 52]⟩ ⟨#[53, 54, 55, 56, 57]⟩ _ (tab_alloc ht1.out _) (by simp [go_sem]) (by simp [go_sem]) (by decide) (by decide)).mono ?_
  rintro e w2 ⟨rfl, rfl⟩
  rw [W2.out]
  have ht2 := Lib.hid (tab_alloc ht1.out)
  go_wp2_with fail
  refine (seal_any ⟨#[]⟩ _ (ht2.out _) (by decide)).mono ?_
  rintro e w3 ⟨rfl, hb3⟩
  rw [W3.out]
  go_wp2
  go_ret
  exact ⟨rfl, (hb1.alloc hb1.size _).trans (hb3.mono (by have := hb1.size; simp; omega))⟩
end Go.Proofs.YtmbgeinjifhagaaDoor
