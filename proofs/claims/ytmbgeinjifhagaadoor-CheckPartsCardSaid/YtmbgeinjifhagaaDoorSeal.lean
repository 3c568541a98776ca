/- The walks over check.Seal and the document's Seal (functions 18, 19): a text of at most 1000 bytes. -/
import Derived.Test.YtmbgeinjifhagaaDoorOf
import Derived.Laws.BytesArg
import Derived.Handy
namespace Go.Proofs.YtmbgeinjifhagaaDoor
open Go.RowKit

/-- Four bytes in a new block, read as a text. -/
theorem conv_four (W : World) (t k : Nat) (hk : k = W.heap.size) (b0 b1 b2 b3 : Int) :
    (convert 41 9 (.slice (some ⟨k, 0, none⟩) 4 4)).run Tryd.prog (W.alloc (.cells #[.int .u8 b0, .int .u8 b1, .int .u8 b2, .int .u8 b3] t)) =
      .ok (.string (strOfNums [b0, b1, b2, b3])) (W.alloc (.cells #[.int .u8 b0, .int .u8 b1, .int .u8 b2, .int .u8 b3] t)) := by
  subst hk
  refine run_convert_bytes_arg _ 41 5 Tryd.underlying41 Tryd.underlying5 W.heap.size 0 4 4 [b0, b1, b2, b3] rfl ?_ 9 Tryd.underlying9
  intro i hi
  rcases i with _ | _ | _ | _ | i
  · simp [go_sem]
  · simp [go_sem]
  · simp [go_sem]
  · simp [go_sem]
  · omega

theorem four_str (s : ByteArray) (n : Nat) (hn : n < 4294967296) :
    s ++ strOfNums [(n : Int) % 256, (n : Int) / 256 % 256, (n : Int) / 65536 % 256, (n : Int) / 16777216] = ⟨(s.data.toList ++ Crc.four n).toArray⟩ := by
  apply ByteArray.ext
  rw [ByteArray.data_append]
  apply Array.toList_inj.1
  simp only [strOfNums, Crc.four, List.map_cons, List.map_nil, Array.toList_append]
  congr 1
  rw [show ((n : Int) % 256).toNat = n % 256 from by omega, show ((n : Int) / 256 % 256).toNat = n / 256 % 256 from by omega, show ((n : Int) / 65536 % 256).toNat = n / 65536 % 256 from by omega, show ((n : Int) / 16777216).toNat = n / 16777216 % 256 from by omega]

theorem seal_any (s : ByteArray) (w : World) (ht : TabOk w) (hs : s.size ≤ 1000) :
    Calls Tryd.prog 18 #[.string s] w fun e w' => e = .returned (.string ⟨(Crc.sealed s.data.toList).toArray⟩) ∧ Below w.heap.size w w' := by
  have ht1 := Lib.hid (fun o => tab_alloc ht o)
  have hm : s.size ≤ maxLen := by unfold maxLen; omega
  obtain ⟨n, hn⟩ : ∃ n, n = Crc.of s.data.toList := ⟨_, rfl⟩
  have hn2 : n < 4294967296 := by rw [hn]; exact Crc.add_lt _ _
  go_enter Tryd.func18, Tryd.ntmps18
  go_wp2_with fail
  refine (of_one w.heap.size s _ (ht1.out _) (by simp [go_sem]) hm).mono ?_
  rintro e w' ⟨rfl, rfl⟩
  rw [← hn]
  have HN := Lib.hid hn; clear hn
  go_wp2
  go_rounds 5
  obtain ⟨t, htt, hts⟩ : ∃ t, t = strOfNums [(n : Int) % 256, (n : Int) / 256 % 256, (n : Int) / 65536 % 256, (n : Int) / 16777216] ∧ t.size ≤ 4 := ⟨_, rfl, by rw [strOfNums_size]; simp⟩
  rw [conv_four _ 40 _ (by simp), ← htt]
  have HT := Lib.hid htt; clear htt
  go_wp2
  go_ret
  rw [HT.out, four_str s n hn2, HN.out]
  refine ⟨rfl, ?_⟩
  go_grown

theorem refseal_any (s : ByteArray) (w : World) (hs : s.size ≤ 1000) :
    Calls Tryd.prog 19 #[.string s] w fun e w' => e = .returned (.string ⟨(Crc.sealed s.data.toList).toArray⟩) ∧ Below w.heap.size w w' := by
  have hm : s.size ≤ maxLen := by unfold maxLen; omega
  obtain ⟨n, hn⟩ : ∃ n, n = Crc.of s.data.toList := ⟨_, rfl⟩
  have hn2 : n < 4294967296 := by rw [hn]; exact Crc.add_lt _ _
  go_enter Tryd.func19, Tryd.ntmps19
  go_wp2_with fail
  refine (refof_any s w hm).mono ?_
  rintro e w' ⟨rfl, rfl⟩
  rw [← hn]
  have HN := Lib.hid hn; clear hn
  go_wp2
  obtain ⟨t, htt, hts⟩ : ∃ t, t = strOfNums [(n : Int) % 256, (n : Int) / 256 % 256, (n : Int) / 65536 % 256, (n : Int) / 16777216] ∧ t.size ≤ 4 := ⟨_, rfl, by rw [strOfNums_size]; simp⟩
  rw [conv_four _ 5 _ (by simp), ← htt]
  have HT := Lib.hid htt; clear htt
  go_wp2
  go_ret
  rw [HT.out, four_str s n hn2, HN.out]
  refine ⟨rfl, ?_⟩
  go_grown
end Go.Proofs.YtmbgeinjifhagaaDoor
