/- The walks over both Adds (functions 14, 15): each comes to Crc.add. -/
import Derived.Test.YtmbgeinjifhagaaDoorCards
import Derived.Test.YtmbgeinjifhagaaDoorCrc
import Derived.WalkKit
import Derived.WalkLawsBesides
import Derived.WalkSpells
import Derived.Lib.Hide
import Derived.Laws.BitsAllLaws
namespace Go.Proofs.YtmbgeinjifhagaaDoor
open Go.RowKit

/-- The table lies in the first package-level variable. -/
def TabOk (w : World) : Prop := ∀ i, i < 16 → w.cell? ⟨0, i, none⟩ = some (.int .u32 (Crc.tab i : Nat))

theorem com32 (c d : Nat) (h : c < 4294967296) (hd : d = 4294967295 - c) : bits .xor .u32 IntKind.u32.max (c : Int) = (d : Int) := by
  have e : IntKind.u32.max = ((4294967295 : Nat) : Int) := by decide
  rw [e, u32_xor_nat _ _ (by decide) h, hd, Crc.not32 c h, Nat.xor_comm]

theorem u32_wrap_nat (n : Nat) (h : n < 4294967296) : IntKind.u32.wrap (n : Int) = (n : Int) := by
  rw [IntKind.wrap_u32']; omega

theorem nib_tab (y n t z : Nat) (hn : n = y % 16) (ht : t = Crc.tab n) (hz : z = y / 16 ^^^ t) : z = Crc.stps 4 y := by
  rw [hz, ht, hn, Crc.nib]

theorem tab_lt : ∀ n, n < 16 → Crc.tab n < 4294967296 := by decide

theorem and15 (y n : Nat) (hy : y < 4294967296) (hn : n = y % 16) : bits .and .u32 (y : Int) 15 = (n : Int) := by
  have := u32_and_nat y 15 hy (by decide)
  rw [nat_mask4] at this
  rw [hn]; exact this

theorem xor_hi (y t z : Nat) (hy : y < 4294967296) (ht : t < 4294967296) (hz : z = y / 16 ^^^ t) : bits .xor .u32 ((y : Int) / 16) (t : Int) = (z : Int) := by
  have := u32_xor_nat (y / 16) t (by omega) ht
  rw [hz, ← this]; rfl

theorem take_snoc (s : ByteArray) (k : Nat) (h : k < s.size) : s.data.toList.take (k + 1) = s.data.toList.take k ++ [s[k]] := by
  rw [List.take_succ_eq_append_getElem (by simpa using h)]; rfl

set_option maxHeartbeats 400000 in
/-- The code's Add. -/
theorem add_any (c : Nat) (hc : c < 4294967296) (s : ByteArray) (hs : s.size ≤ maxLen) (w : World) (ht : TabOk w) :
    Calls Tryd.prog 14 #[.int .u32 (c : Nat), .string s] w fun e w' => e = .returned (.int .u32 (Crc.add c s.data.toList : Nat)) ∧ w = w' := by
  unfold maxLen at hs
  obtain ⟨d, hd⟩ : ∃ d, d = 4294967295 - c := ⟨_, rfl⟩
  have e0 := com32 c d hc hd
  have HD := Lib.hid hd; clear hd
  go_enter Tryd.func14, Tryd.ntmps14
  go_wp2
  go_loop [0, 10] (fun v i => ∃ (x k : Nat), k ≤ s.size ∧ x < 4294967296 ∧ Hid (x = Crc.crc d (s.data.toList.take k)) ∧ v = .int .u32 (x : Nat) ∧ i = .int .i64 k) (fun _ i => s.size - (intOf i).toNat)
  case atStart =>
    have := HD.out
    exact ⟨d, 0, Nat.zero_le _, by omega, by unfold Hid; simp [Crc.crc], rfl, rfl⟩
  case round =>
    obtain ⟨x, k, hk, hx, HX, rfl, rfl⟩ := hrel
    by_cases hlt : k < s.size
    · obtain ⟨b, hb⟩ : ∃ b, b = s[k].toNat := ⟨_, rfl⟩
      have hb2 : b < 256 := by rw [hb]; exact s[k].toNat_lt
      obtain ⟨y, hy⟩ : ∃ y, y = x ^^^ b := ⟨_, rfl⟩
      have hy2 : y < 4294967296 := by rw [hy]; exact Crc.xor_lt32 hx (by omega)
      obtain ⟨n1, hn1⟩ : ∃ n1, n1 = y % 16 := ⟨_, rfl⟩
      obtain ⟨t1, ht1⟩ : ∃ t1, t1 = Crc.tab n1 := ⟨_, rfl⟩
      obtain ⟨z, hz⟩ : ∃ z, z = y / 16 ^^^ t1 := ⟨_, rfl⟩
      have ht1l : t1 < 4294967296 := by rw [ht1]; exact tab_lt n1 (by omega)
      have hz2 : z < 4294967296 := by rw [hz]; exact Crc.xor_lt32 (by omega) ht1l
      obtain ⟨n2, hn2⟩ : ∃ n2, n2 = z % 16 := ⟨_, rfl⟩
      obtain ⟨t2, ht2⟩ : ∃ t2, t2 = Crc.tab n2 := ⟨_, rfl⟩
      obtain ⟨u, hu⟩ : ∃ u, u = z / 16 ^^^ t2 := ⟨_, rfl⟩
      have ht2l : t2 < 4294967296 := by rw [ht2]; exact tab_lt n2 (by omega)
      have hu2 : u < 4294967296 := by rw [hu]; exact Crc.xor_lt32 (by omega) ht2l
      have b1 : n1 < 16 := by omega
      have b2 : n2 < 16 := by omega
      have q0 : (s[k].toNat : Int) = (b : Int) := by rw [hb]
      have q1 : bits .xor .u32 (x : Int) (b : Int) = (y : Int) := by rw [hy]; exact u32_xor_nat x b hx (by omega)
      have q2 := and15 y n1 hy2 hn1
      have q3 := xor_hi y t1 z hy2 ht1l hz
      have q4 := and15 z n2 hz2 hn2
      have q5 := xor_hi z t2 u hz2 ht2l hu
      have c1 : w.cell? ⟨0, n1, none⟩ = some (.int .u32 (t1 : Nat)) := by rw [ht1]; exact ht n1 b1
      have c2 : w.cell? ⟨0, n2, none⟩ = some (.int .u32 (t2 : Nat)) := by rw [ht2]; exact ht n2 b2
      have hU : Hid (u = Crc.crc d (s.data.toList.take (k + 1))) := by
        unfold Hid
        have e1 := nib_tab y n1 t1 z hn1 ht1 hz
        have e2 := nib_tab z n2 t2 u hn2 ht2 hu
        rw [take_snoc s k hlt, Crc.crc_append, ← HX.out, e2, e1, ← Crc.stps_add, hy, hb]
        rfl
      clear hb hy hn1 ht1 hz hn2 ht2 hu
      go_wp2
      go_round
      case rel => exact ⟨u, k + 1, by omega, hu2, hU, rfl, by go_num⟩
      case measure => simp [intOf]; omega
    · obtain ⟨r, hr⟩ : ∃ r, r = 4294967295 - x := ⟨_, rfl⟩
      have e9 := com32 x r hx hr
      have hR : Hid (r = Crc.add c s.data.toList) := by
        unfold Hid
        have hks : k = s.data.toList.length := by simp; omega
        rw [hr, HX.out, hks, List.take_length, HD.out]
        rfl
      clear hr
      go_wp2
      go_ret
      rw [hR.out]
      exact ⟨rfl, rfl⟩
theorem xor_poly (x z : Nat) (hx : x < 4294967296) (hz : z = x / 2 ^^^ 3988292384) : bits .xor .u32 ((x : Int) / 2) 3988292384 = (z : Int) := by
  have := u32_xor_nat (x / 2) 3988292384 (by omega) (by decide)
  rw [hz, ← this]; rfl

set_option maxHeartbeats 400000 in
/-- The document's Add. -/
theorem refadd_any (c : Nat) (hc : c < 4294967296) (s : ByteArray) (hs : s.size ≤ maxLen) (w : World) :
    Calls Tryd.prog 15 #[.int .u32 (c : Nat), .string s] w fun e w' => e = .returned (.int .u32 (Crc.add c s.data.toList : Nat)) ∧ w = w' := by
  unfold maxLen at hs
  obtain ⟨d, hd⟩ : ∃ d, d = 4294967295 - c := ⟨_, rfl⟩
  have e0 := com32 c d hc hd
  have HD := Lib.hid hd; clear hd
  go_enter Tryd.func15, Tryd.ntmps15
  go_wp2
  go_loop [0, 5] (fun v i => ∃ (x k : Nat), k ≤ s.size ∧ x < 4294967296 ∧ Hid (x = Crc.crc d (s.data.toList.take k)) ∧ v = .int .u32 (x : Nat) ∧ i = .int .i64 k) (fun _ i => s.size - (intOf i).toNat)
  case atStart =>
    have := HD.out
    exact ⟨d, 0, Nat.zero_le _, by omega, by unfold Hid; simp [Crc.crc], rfl, rfl⟩
  case round =>
    obtain ⟨x, k, hk, hx, HX, rfl, rfl⟩ := hrel
    by_cases hlt : k < s.size
    · obtain ⟨b, hb⟩ : ∃ b, b = s[k].toNat := ⟨_, rfl⟩
      have hb2 : b < 256 := by rw [hb]; exact s[k].toNat_lt
      obtain ⟨y, hy⟩ : ∃ y, y = x ^^^ b := ⟨_, rfl⟩
      have hy2 : y < 4294967296 := by rw [hy]; exact Crc.xor_lt32 hx (by omega)
      have q0 : (s[k].toNat : Int) = (b : Int) := by rw [hb]
      have q1 : bits .xor .u32 (x : Int) (b : Int) = (y : Int) := by rw [hy]; exact u32_xor_nat x b hx (by omega)
      have hU : Hid (Crc.stps 8 y = Crc.crc d (s.data.toList.take (k + 1))) := by
        unfold Hid
        rw [take_snoc s k hlt, Crc.crc_append, ← HX.out, hy, hb]
        rfl
      clear hb hy
      go_wp2
      go_loop [0, 6] (fun v j => ∃ (z m : Nat), m ≤ 8 ∧ z < 4294967296 ∧ Hid (z = Crc.stps m y) ∧ v = .int .u32 (z : Nat) ∧ j = .int .i64 m) (fun _ j => 8 - (intOf j).toNat)
      case atStart => exact ⟨y, 0, Nat.zero_le _, hy2, rfl, rfl, rfl⟩
      case round =>
        clear q0 q1
        obtain ⟨z, m, hm, hz, HZ, rfl, rfl⟩ := hrel
        by_cases hm8 : m < 8
        · by_cases hodd : z % 2 = 1
          · obtain ⟨u, hu⟩ : ∃ u, u = z / 2 ^^^ 3988292384 := ⟨_, rfl⟩
            have q2 := xor_poly z u hz hu
            have hu2 : u < 4294967296 := by rw [hu]; exact Crc.xor_lt32 (by omega) (by decide)
            have HU2 : Hid (u = Crc.stps (m + 1) y) := by
              unfold Hid
              rw [Crc.stps_add m 1, ← HZ.out, hu]
              simp [Crc.stps, Crc.stp, hodd]
            have hp : (((z : Int) % 2) == 1) = true := by simp; omega
            clear hu hodd
            go_wp2
            go_round
            case rel => exact ⟨u, m + 1, by omega, hu2, HU2, rfl, by go_num⟩
            case measure => simp [intOf]; omega
          · have hp : (((z : Int) % 2) == 1) = false := by simp; omega
            have HU2 : Hid (z / 2 = Crc.stps (m + 1) y) := by
              unfold Hid
              rw [Crc.stps_add m 1, ← HZ.out]
              simp [Crc.stps, Crc.stp, hodd]
            clear hodd
            go_wp2
            go_round
            case rel => exact ⟨z / 2, m + 1, by omega, by omega, HU2, rfl, by go_num⟩
            case measure => simp [intOf]; omega
        · have HM : Hid (m = 8) := by unfold Hid; omega
          go_wp2
          go_round
          case rel => exact ⟨z, k + 1, by omega, hz, by unfold Hid; rw [HZ.out, HM.out, hU.out], rfl, by go_num⟩
          case measure => simp [intOf]; omega
    · obtain ⟨r, hr⟩ : ∃ r, r = 4294967295 - x := ⟨_, rfl⟩
      have e9 := com32 x r hx hr
      have hR : Hid (r = Crc.add c s.data.toList) := by
        unfold Hid
        have hks : k = s.data.toList.length := by simp; omega
        rw [hr, HX.out, hks, List.take_length, HD.out]
        rfl
      clear hr
      go_wp2
      go_ret
      rw [hR.out]
      exact ⟨rfl, rfl⟩
end Go.Proofs.YtmbgeinjifhagaaDoor
