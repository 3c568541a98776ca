/- The walks over check.Of, Whole, Open and the document's Of (functions 12, 20, 16, 13). -/
import Derived.Test.YtmbgeinjifhagaaDoorSum
import Derived.Handy
namespace Go.Proofs.YtmbgeinjifhagaaDoor
open Go.RowKit

/-- The bytes of texts, one behind the other. -/
def cat (ss : List ByteArray) : List UInt8 := (ss.map (·.data.toList)).flatten

theorem cat_snoc (ss : List ByteArray) (k : Nat) (h : k < ss.length) : cat (ss.take (k + 1)) = cat (ss.take k) ++ ss[k].data.toList := by
  unfold cat
  rw [List.take_succ_eq_append_getElem h, List.map_append, List.flatten_append]; simp

/-- 'Of' over a row of texts that lies at the head of a block. -/
theorem of_list (b : Nat) (ss : List ByteArray) (w : World) (ht : TabOk w) (hlen : ss.length ≤ 100)
    (hc : ∀ i (h : i < ss.length), w.cell? ⟨b, i, none⟩ = some (.string ss[i])) (hs : ∀ i (h : i < ss.length), ss[i].size ≤ maxLen) :
    Calls Tryd.prog 12 #[.slice (some ⟨b, 0, none⟩) ss.length ss.length] w fun e w' => e = .returned (.int .u32 (Crc.of (cat ss) : Nat)) ∧ w = w' := by
  have HC := Lib.hid hc; clear hc
  have HS := Lib.hid hs; clear hs
  go_enter Tryd.func12, Tryd.ntmps12
  go_wp2
  go_loop [3, 8] (fun v i => ∃ (x k : Nat), k ≤ ss.length ∧ x < 4294967296 ∧ Hid (x = Crc.of (cat (ss.take k))) ∧ v = .int .u32 (x : Nat) ∧ i = .int .i64 k) (fun _ i => ss.length - (intOf i).toNat)
  case atStart => exact ⟨0, 0, Nat.zero_le _, by omega, by unfold Hid; rw [List.take_zero]; decide, rfl, rfl⟩
  case round =>
    obtain ⟨x, k, hk, hx, HX, rfl, rfl⟩ := hrel
    by_cases hlt : k < ss.length
    · obtain ⟨s, hs⟩ : ∃ s, s = ss[k] := ⟨_, rfl⟩
      have hss : s.size ≤ maxLen := by rw [hs]; exact HS.out k hlt
      have c1 : w.cell? ⟨b, k, none⟩ = some (.string s) := by rw [hs]; exact HC.out k hlt
      have hU : Hid (Crc.add x s.data.toList = Crc.of (cat (ss.take (k + 1)))) := by
        unfold Hid
        rw [cat_snoc ss k hlt, ← hs, HX.out]
        exact Crc.add_append 0 _ _
      clear hs
      go_wp2_with (go_at_call 14; refine (add_any x hx s hss w ht).mono ?_; rintro e w' ⟨rfl, rfl⟩)
      go_round
      case rel => exact ⟨_, k + 1, by omega, Crc.add_lt _ _, hU, rfl, by go_num⟩
      case measure => simp [intOf]; omega
    · have hX : Hid (x = Crc.of (cat ss)) := by
        unfold Hid
        rw [HX.out, List.take_of_length_le (by omega)]
      go_wp2
      go_ret
      rw [hX.out]
      exact ⟨rfl, rfl⟩

theorem of_none (w : World) :
    Calls Tryd.prog 12 #[.slice none 0 0] w fun e w' => e = .returned (.int .u32 0) ∧ w = w' := by
  go_enter Tryd.func12, Tryd.ntmps12
  go_wp2
  go_rounds 1
  go_ret
  exact ⟨rfl, rfl⟩

theorem of_one (b : Nat) (s : ByteArray) (w : World) (ht : TabOk w) (hc : w.cell? ⟨b, 0, none⟩ = some (.string s)) (hs : s.size ≤ maxLen) :
    Calls Tryd.prog 12 #[.slice (some ⟨b, 0, none⟩) 1 1] w fun e w' => e = .returned (.int .u32 (Crc.of s.data.toList : Nat)) ∧ w = w' := by
  have h1 : ∀ i (h : i < [s].length), w.cell? ⟨b, i, none⟩ = some (.string [s][i]) := by
    intro i h
    obtain rfl : i = 0 := by simp at h; omega
    exact hc
  have h2 : ∀ i (h : i < [s].length), [s][i].size ≤ maxLen := by
    intro i h
    obtain rfl : i = 0 := by simp at h; omega
    exact hs
  have := of_list b [s] w ht (by simp) h1 h2
  simpa [cat] using this

theorem of_two (b : Nat) (s t : ByteArray) (w : World) (ht : TabOk w) (hc0 : w.cell? ⟨b, 0, none⟩ = some (.string s)) (hc1 : w.cell? ⟨b, 1, none⟩ = some (.string t)) (hs : s.size ≤ maxLen) (htt : t.size ≤ maxLen) :
    Calls Tryd.prog 12 #[.slice (some ⟨b, 0, none⟩) 2 2] w fun e w' => e = .returned (.int .u32 (Crc.of (s.data.toList ++ t.data.toList) : Nat)) ∧ w = w' := by
  have h1 : ∀ i (h : i < [s, t].length), w.cell? ⟨b, i, none⟩ = some (.string [s, t][i]) := by
    intro i h
    rcases i with _ | _ | i
    · exact hc0
    · exact hc1
    · simp at h; omega
  have h2 : ∀ i (h : i < [s, t].length), [s, t][i].size ≤ maxLen := by
    intro i h
    rcases i with _ | _ | i
    · exact hs
    · exact htt
    · simp at h; omega
  have := of_list b [s, t] w ht (by simp) h1 h2
  simpa [cat] using this

theorem of_three (b : Nat) (s t u : ByteArray) (w : World) (ht : TabOk w) (hc0 : w.cell? ⟨b, 0, none⟩ = some (.string s)) (hc1 : w.cell? ⟨b, 1, none⟩ = some (.string t)) (hc2 : w.cell? ⟨b, 2, none⟩ = some (.string u)) (hs : s.size ≤ maxLen) (htt : t.size ≤ maxLen) (hu : u.size ≤ maxLen) :
    Calls Tryd.prog 12 #[.slice (some ⟨b, 0, none⟩) 3 3] w fun e w' => e = .returned (.int .u32 (Crc.of (s.data.toList ++ t.data.toList ++ u.data.toList) : Nat)) ∧ w = w' := by
  have h1 : ∀ i (h : i < [s, t, u].length), w.cell? ⟨b, i, none⟩ = some (.string [s, t, u][i]) := by
    intro i h
    rcases i with _ | _ | _ | i
    · exact hc0
    · exact hc1
    · exact hc2
    · simp at h; omega
  have h2 : ∀ i (h : i < [s, t, u].length), [s, t, u][i].size ≤ maxLen := by
    intro i h
    rcases i with _ | _ | _ | i
    · exact hs
    · exact htt
    · exact hu
    · simp at h; omega
  have := of_list b [s, t, u] w ht (by simp) h1 h2
  simpa [cat] using this

theorem tab_heap {w : World} (ht : TabOk w) : 0 < w.heap.size := by
  rcases Nat.eq_zero_or_pos w.heap.size with h | h
  · have := ht 0 (by decide)
    have he : w.heap[0]? = none := by simp [h]
    simp [World.cell?, he] at this
  · exact h

theorem tab_below {w w' : World} (ht : TabOk w) (hb : Below w.heap.size w w') : TabOk w' := fun i hi => by
  rw [hb.cell (p := ⟨0, i, none⟩) (tab_heap ht)]; exact ht i hi

theorem tab_alloc {w : World} (ht : TabOk w) (o : Obj) : TabOk (w.alloc o) := tab_below ht ((Below.refl _ _).alloc (Nat.le_refl _) o)

/-- Is a text whole? -/
def isWhole (l : List UInt8) : Bool := decide (Crc.of l = 558161692)
theorem isWhole_beq (l : List UInt8) : (((Crc.of l : Nat) : Int) == 558161692) = isWhole l := by
  unfold isWhole
  rw [Bool.eq_iff_iff]; simp; omega

/-- 'Whole'. -/
theorem whole_any (s : ByteArray) (w : World) (ht : TabOk w) (hs : s.size ≤ maxLen) :
    Calls Tryd.prog 20 #[.string s] w fun e w' => e = .returned (.bool (isWhole s.data.toList)) ∧ Below w.heap.size w w' := by
  have ht1 := Lib.hid (fun o => tab_alloc ht o)
  go_enter Tryd.func20, Tryd.ntmps20
  go_wp2_with fail
  refine (of_one w.heap.size s _ (ht1.out _) (by simp [go_sem]) hs).mono ?_
  rintro e w' ⟨rfl, rfl⟩
  go_wp2
  go_ret
  rw [isWhole_beq]
  exact ⟨rfl, (Below.refl _ _).alloc (Nat.le_refl _) _⟩

theorem whole_is (s : ByteArray) (v : Bool) (w : World) (ht : TabOk w) (hs : s.size ≤ maxLen) (hv : isWhole s.data.toList = v) :
    Calls Tryd.prog 20 #[.string s] w fun e w' => e = .returned (.bool v) ∧ Below w.heap.size w w' := by
  rw [← hv]; exact whole_any s w ht hs

theorem refof_any (s : ByteArray) (w : World) (hs : s.size ≤ maxLen) :
    Calls Tryd.prog 13 #[.string s] w fun e w' => e = .returned (.int .u32 (Crc.of s.data.toList : Nat)) ∧ w = w' := by
  go_enter Tryd.func13, Tryd.ntmps13
  go_wp2_with fail
  refine (refadd_any 0 (by decide) s hs w).mono ?_
  rintro e w' ⟨rfl, rfl⟩
  go_wp2
  go_ret
  exact ⟨rfl, rfl⟩

/-- 'Open' of a short text. -/
theorem open_short (s : ByteArray) (w : World) (h : s.size < 4) :
    Calls Tryd.prog 16 #[.string s] w fun e w' => e = .returned (.tuple #[.string ⟨#[]⟩, .bool false]) ∧ Below w.heap.size w w' := by
  have hd : decide ((s.size : Int) < 4) = true := by simp; omega
  go_enter Tryd.func16, Tryd.ntmps16
  go_wp2
  go_ret2
  exact ⟨rfl, Below.refl _ _⟩
theorem open_not (s : ByteArray) (w : World) (ht : TabOk w) (hs : s.size ≤ maxLen) (h : 4 ≤ s.size) (hw : isWhole s.data.toList = false) :
    Calls Tryd.prog 16 #[.string s] w fun e w' => e = .returned (.tuple #[.string ⟨#[]⟩, .bool false]) ∧ Below w.heap.size w w' := by
  have hd : decide ((s.size : Int) < 4) = false := by simp; omega
  have hm := hs
  unfold maxLen at hm
  go_enter Tryd.func16, Tryd.ntmps16
  go_wp2_with fail
  refine (whole_is s false w ht hs hw).mono ?_
  rintro e w' ⟨rfl, hb⟩
  go_wp2
  go_ret2
  exact ⟨rfl, hb⟩
theorem open_whole (s : ByteArray) (w : World) (ht : TabOk w) (hs : s.size ≤ maxLen) (h : 4 ≤ s.size) (hw : isWhole s.data.toList = true) :
    Calls Tryd.prog 16 #[.string s] w fun e w' => e = .returned (.tuple #[.string (s.extract 0 (s.size - 4)), .bool true]) ∧ Below w.heap.size w w' := by
  have hd : decide ((s.size : Int) < 4) = false := by simp; omega
  have hm := hs
  unfold maxLen at hm
  go_enter Tryd.func16, Tryd.ntmps16
  go_wp2_with fail
  refine (whole_is s true w ht hs hw).mono ?_
  rintro e w' ⟨rfl, hb⟩
  go_wp2
  go_ret2
  exact ⟨rfl, hb⟩
end Go.Proofs.YtmbgeinjifhagaaDoor
