/- The walk over the law's turned (function 21): bits of a text turned, from a place on that leaves room for 32 bits. -/
import Derived.Test.YtmbgeinjifhagaaDoorOpn
import Derived.Lib.ConvBytes
import Derived.Handy
namespace Go.Proofs.YtmbgeinjifhagaaDoor
open Go.RowKit

theorem bytesWorld_frozen (w : World) (e : TypeId) (s : ByteArray) (j : Nat) (hj : j < s.size) : (Lib.bytesWorld w e s).frozen? ⟨w.heap.size, j, none⟩ = false := by
  unfold World.frozen?
  rw [Lib.bytesWorld_at_new]
  have : j < (Lib.bytesCells w e s).size := by
    have hs : s.data.size = s.size := rfl
    simp [Lib.bytesCells]; omega
  simp; omega

theorem bytes_below (w : World) (e : TypeId) (s : ByteArray) : Below w.heap.size w (Lib.bytesWorld w e s) := by
  have h : ∀ (u : World) (a : Addr), (u.freeze a 1).os = u.os ∧ (u.freeze a 1).tape = u.tape ∧ (u.freeze a 1).output = u.output := fun u a => by
    unfold World.freeze; rw [if_neg (by decide)]; exact ⟨rfl, rfl, rfl⟩
  refine ⟨?_, ?_, ?_, by rw [Lib.bytesWorld_size]; omega, fun k hk => Lib.bytesWorld_at_old w e s k hk⟩
  · unfold Lib.bytesWorld; rw [(h _ _).1]; rfl
  · unfold Lib.bytesWorld; rw [(h _ _).2.1]; rfl
  · unfold Lib.bytesWorld; rw [(h _ _).2.2]; rfl

theorem bit_at (c k b : Nat) (hc : c < 4294967296) (hb : c / 2 ^ k % 2 = b) : bits .and .u32 ((c : Int) / 2 ^ k) 1 = (b : Int) := by
  have e : ((c / 2 ^ k : Nat) : Int) = (c : Int) / 2 ^ k := by simp
  have h := u32_and_nat (c / 2 ^ k) 1 (Nat.lt_of_le_of_lt (Nat.div_le_self _ _) hc) (by decide)
  rw [nat_mask1, e, hb] at h
  exact h

theorem xor_bit (v m : Nat) (hv : v < 256) (hm : m < 8) : bits .xor .u8 (v : Int) ((2 : Int) ^ m % 256) = ((v ^^^ 2 ^ m : Nat) : Int) := by
  have hp8 : 2 ^ m < 2 ^ 8 := Nat.pow_lt_pow_right (by decide) hm
  have hp : 2 ^ m < 256 := hp8
  have e : (2 : Int) ^ m % 256 = ((2 ^ m : Nat) : Int) := by
    have h1 : ((2 ^ m : Nat) : Int) = (2 : Int) ^ m := by simp
    rw [← h1]
    clear hp8 h1
    generalize 2 ^ m = p at *
    omega
  rw [e]
  exact u8_xor_nat v (2 ^ m) hv hp

/-- What holds at the head of round k of 'turned': l is what the new row holds. -/
def TRel (n c B : Nat) (s : ByteArray) (w : World) (k : Nat) (l : List UInt8) (wr : World) : Prop :=
  l.length = s.size ∧ Crc.turnGo n c (32 - k) k l = Crc.turned n c s.data.toList ∧ (∀ j, j < s.size → wr.cell? ⟨B, j, none⟩ = some (.int .u8 (l.getD j 0).toNat)) ∧
    (∀ j, j < s.size → wr.frozen? ⟨B, j, none⟩ = false) ∧ B < wr.heap.size ∧ Below B w wr

theorem trel_zero {n c B : Nat} {s : ByteArray} {w : World} {k : Nat} {l : List UInt8} {wr : World} (h : TRel n c B s w k l wr) (hk : k < 32) (hb : c / 2 ^ k % 2 = 0) : TRel n c B s w (k + 1) l wr := by
  obtain ⟨h1, h2, h3, h4, h5, h6⟩ := h
  refine ⟨h1, ?_, h3, h4, h5, h6⟩
  rw [show 32 - k = (32 - (k + 1)) + 1 from by omega, Crc.turnGo, if_neg (by omega)] at h2
  exact h2

theorem trel_one {n c B : Nat} {s : ByteArray} {w : World} {k : Nat} {l : List UInt8} {wr : World} (h : TRel n c B s w k l wr) (hk : k < 32) (hb : c / 2 ^ k % 2 = 1) (hj : (n + k) / 8 < s.size) {v : Nat}
    (hv : v = (l.getD ((n + k) / 8) 0).toNat) : TRel n c B s w (k + 1) (l.set ((n + k) / 8) (UInt8.ofNat (v ^^^ 2 ^ ((n + k) % 8)))) (wr.setCell ⟨B, (n + k) / 8, none⟩ (.int .u8 ((v ^^^ 2 ^ ((n + k) % 8) : Nat)))) := by
  obtain ⟨h1, h2, h3, h4, h5, h6⟩ := h
  have hv8 : v < 256 := by rw [hv]; exact (l.getD ((n + k) / 8) 0).toNat_lt
  have hx : v ^^^ 2 ^ ((n + k) % 8) < 256 := Nat.xor_lt_two_pow (n := 8) hv8 (Nat.pow_lt_pow_right (by decide) (Nat.mod_lt _ (by decide)))
  refine ⟨by simp [h1], ?_, fun j hjs => ?_, fun j hjs => by rw [World.frozen?_setCell]; exact h4 j hjs, by simpa using h5, h6.setCell (p := ⟨B, _, none⟩) (Nat.le_refl _) _⟩
  · rw [show 32 - k = (32 - (k + 1)) + 1 from by omega, Crc.turnGo, if_pos hb] at h2
    rw [hv]; exact h2
  · by_cases e : j = (n + k) / 8
    · subst e
      rw [World.cell?_setCell_same' _ _ _ (by rw [h3 _ hjs]; rfl)]
      rw [List.getD_eq_getElem?_getD, List.getElem?_set_self (by omega), Option.getD_some, UInt8.toNat_ofNat', Nat.mod_eq_of_lt hx]
    · rw [World.cell?_setCell_other _ _ _ _ (fun he => e (congrArg Addr.off he).symm)]
      rw [h3 j hjs, List.getD_eq_getElem?_getD, List.getD_eq_getElem?_getD, List.getElem?_set_ne (Ne.symm e)]

/-- The row read back as a text. -/
theorem conv_back (wr : World) (B cap m : Nat) (l : List UInt8) (hm : l.length = m) (h : ∀ j, j < m → wr.cell? ⟨B, j, none⟩ = some (.int .u8 (l.getD j 0).toNat)) :
    (convert 41 9 (.slice (some ⟨B, 0, none⟩) m cap)).run Tryd.prog wr = .ok (.string ⟨l.toArray⟩) wr := by
  have h0 : ∀ i, i < m → wr.cell? ⟨B, 0 + i, none⟩ = some (.int .u8 ((l.map fun b => (b.toNat : Int)).getD i 0)) := by
    intro i hi
    rw [Nat.zero_add, h i hi]
    simp [List.getD_eq_getElem?_getD, List.getElem?_eq_getElem (show i < l.length by omega)]
  rw [run_convert_bytes_arg wr 41 5 Tryd.underlying41 Tryd.underlying5 B 0 m cap (l.map fun b => (b.toNat : Int)) (by simp [hm]) h0 9 Tryd.underlying9]
  have e : strOfNums (l.map fun b => (b.toNat : Int)) = ⟨l.toArray⟩ := by
    have h1 : (l.map fun b => (b.toNat : Int)).map (fun n : Int => UInt8.ofNat n.toNat) = l := by
      rw [List.map_map]
      have h2 : ((fun n : Int => UInt8.ofNat n.toNat) ∘ fun b : UInt8 => (b.toNat : Int)) = id := by funext b; simp
      rw [h2, List.map_id]
    unfold strOfNums
    rw [h1]
  rw [e]

/-- What 'turned' comes to: at some place that leaves room for 32 bits. -/
def Turns (s : ByteArray) (c : Nat) (w : World) (e : Ending) (w' : World) : Prop := ∃ n : Nat, n + 32 ≤ 8 * s.size ∧ e = .returned (.string ⟨(Crc.turned n c s.data.toList).toArray⟩) ∧ Below w.heap.size w w'

set_option maxHeartbeats 400000 in
theorem turned_pos (s : ByteArray) (x : Int) (c : Nat) (hx0 : 0 ≤ x) (hx1 : x ≤ 9223372036854775807) (hc : c < 4294967296) (hs : s.size ≤ 304) (h5 : 5 ≤ s.size) (w : World) :
    Calls Tryd.prog 21 #[.string s, .int .i64 x, .int .u32 (c : Nat)] w fun e w' => Turns s c w e w' := by
  have hd : decide (x < 0) = false := by simp; omega
  go_enter Tryd.func21, Tryd.ntmps21
  go_wp2
  have hm0 : 0 ≤ x % (8 * s.size - 31) := Int.emod_nonneg _ (by omega)
  have hm1 : x % (8 * s.size - 31) < 8 * s.size - 31 := Int.emod_lt_of_pos _ (by omega)
  obtain ⟨n, hn⟩ : ∃ n : Nat, x % (8 * s.size - 31) = n := ⟨_, (Int.toNat_of_nonneg hm0).symm⟩
  rw [hn] at hm0 hm1 ⊢
  clear hn hm0
  rw [Lib.run_convert_string_bytes w 9 41 5 s Tryd.underlying9 Tryd.underlying41 Tryd.underlying5]
  have HC := Lib.hid (Lib.bytesWorld_cell w 5 s)
  have HF := Lib.hid (bytesWorld_frozen w 5 s)
  have hb := bytes_below w 5 s
  have hsz : w.heap.size < (Lib.bytesWorld w 5 s).heap.size := by rw [Lib.bytesWorld_size]; omega
  generalize Lib.bytesWorld w 5 s = wb at *
  generalize grownCap w s.size 0 5 = cap at *
  obtain ⟨B, hB⟩ : ∃ B, B = w.heap.size := ⟨_, rfl⟩
  rw [← hB] at HC HF hb hsz ⊢
  have HB := Lib.hid hB; clear hB
  go_wp2
  go_loopw [9] (fun i wr => ∃ (k : Nat) (l : List UInt8), k ≤ 32 ∧ i = .int .i64 k ∧ TRel n c B s w k l wr) (fun i _ => 32 - (intOf i).toNat)
  case atStart => exact ⟨0, s.data.toList, by omega, rfl, by simp, rfl, HC.out, HF.out, hsz, hb⟩
  case round =>
    clear hb hsz HC HF
    obtain ⟨k, l, hk, rfl, HR⟩ := hrel
    by_cases hlt : k < 32
    · have hj : (n + k) / 8 < s.size := by omega
      by_cases hbit : c / 2 ^ k % 2 = 1
      · have q1 := bit_at c k 1 hc hbit
        obtain ⟨v, hv⟩ : ∃ v, v = (l.getD ((n + k) / 8) 0).toNat := ⟨_, rfl⟩
        have hv8 : v < 256 := by rw [hv]; exact (l.getD ((n + k) / 8) 0).toNat_lt
        have q2 := xor_bit v ((n + k) % 8) hv8 (Nat.mod_lt _ (by decide))
        have c1 : wr.cell? ⟨B, (n + k) / 8, none⟩ = some (.int .u8 (v : Nat)) := by rw [hv]; exact HR.2.2.1 _ hj
        have f1 : wr.frozen? ⟨B, (n + k) / 8, none⟩ = false := HR.2.2.2.1 _ hj
        have HR2 := Lib.hid (trel_one HR hlt hbit hj hv)
        clear hv hbit HR
        go_wp2
        go_roundw
        case rel => exact ⟨k + 1, _, by omega, by go_num, HR2.out⟩
        case measure => simp [intOf]; omega
      · have q1 := bit_at c k 0 hc (by omega)
        have HR2 := trel_zero HR hlt (by omega)
        clear hbit HR
        go_wp2
        go_roundw
        case rel => exact ⟨k + 1, _, by omega, by go_num, HR2⟩
        case measure => simp [intOf]; omega
    · go_wp2
      obtain ⟨h1, h2, h3, h4, h5, h6⟩ := HR
      rw [show 32 - k = 0 from by omega] at h2
      simp only [Crc.turnGo] at h2
      rw [conv_back wr B cap s.size l h1 h3, h2]
      have h6' := Lib.hid h6
      rw [HB.out] at h6'
      have hn32 : n + 32 ≤ 8 * s.size := by omega
      clear h2 h3 h4 h5 h6 h1
      go_wp2
      go_ret
      exact ⟨n, hn32, rfl, h6'.out⟩
set_option maxHeartbeats 400000 in
theorem turned_neg (s : ByteArray) (x : Int) (c : Nat) (hx0 : x < 0) (hx1 : -9223372036854775808 ≤ x) (hc : c < 4294967296) (hs : s.size ≤ 304) (h5 : 5 ≤ s.size) (w : World) :
    Calls Tryd.prog 21 #[.string s, .int .i64 x, .int .u32 (c : Nat)] w fun e w' => Turns s c w e w' := by
  have hd : decide (x < 0) = true := by simp; omega
  go_enter Tryd.func21, Tryd.ntmps21
  go_wp2
  have hm2 : -(x + 1).tmod (8 * s.size - 31) = (-(x + 1)) % (8 * s.size - 31) := by rw [← Int.neg_tmod, Int.tmod_eq_emod_of_nonneg (by omega)]
  have hm0 : 0 ≤ -(x + 1).tmod (8 * s.size - 31) := by rw [hm2]; exact Int.emod_nonneg _ (by omega)
  have hm1 : -(x + 1).tmod (8 * s.size - 31) < 8 * s.size - 31 := by rw [hm2]; exact Int.emod_lt_of_pos _ (by omega)
  clear hm2
  obtain ⟨n, hn⟩ : ∃ n : Nat, -(x + 1).tmod (8 * s.size - 31) = n := ⟨_, (Int.toNat_of_nonneg hm0).symm⟩
  rw [hn] at hm0 hm1 ⊢
  clear hn hm0
  rw [Lib.run_convert_string_bytes w 9 41 5 s Tryd.underlying9 Tryd.underlying41 Tryd.underlying5]
  have HC := Lib.hid (Lib.bytesWorld_cell w 5 s)
  have HF := Lib.hid (bytesWorld_frozen w 5 s)
  have hb := bytes_below w 5 s
  have hsz : w.heap.size < (Lib.bytesWorld w 5 s).heap.size := by rw [Lib.bytesWorld_size]; omega
  generalize Lib.bytesWorld w 5 s = wb at *
  generalize grownCap w s.size 0 5 = cap at *
  obtain ⟨B, hB⟩ : ∃ B, B = w.heap.size := ⟨_, rfl⟩
  rw [← hB] at HC HF hb hsz ⊢
  have HB := Lib.hid hB; clear hB
  go_wp2
  go_loopw [9] (fun i wr => ∃ (k : Nat) (l : List UInt8), k ≤ 32 ∧ i = .int .i64 k ∧ TRel n c B s w k l wr) (fun i _ => 32 - (intOf i).toNat)
  case atStart => exact ⟨0, s.data.toList, by omega, rfl, by simp, rfl, HC.out, HF.out, hsz, hb⟩
  case round =>
    clear hb hsz HC HF
    obtain ⟨k, l, hk, rfl, HR⟩ := hrel
    by_cases hlt : k < 32
    · have hj : (n + k) / 8 < s.size := by omega
      by_cases hbit : c / 2 ^ k % 2 = 1
      · have q1 := bit_at c k 1 hc hbit
        obtain ⟨v, hv⟩ : ∃ v, v = (l.getD ((n + k) / 8) 0).toNat := ⟨_, rfl⟩
        have hv8 : v < 256 := by rw [hv]; exact (l.getD ((n + k) / 8) 0).toNat_lt
        have q2 := xor_bit v ((n + k) % 8) hv8 (Nat.mod_lt _ (by decide))
        have c1 : wr.cell? ⟨B, (n + k) / 8, none⟩ = some (.int .u8 (v : Nat)) := by rw [hv]; exact HR.2.2.1 _ hj
        have f1 : wr.frozen? ⟨B, (n + k) / 8, none⟩ = false := HR.2.2.2.1 _ hj
        have HR2 := Lib.hid (trel_one HR hlt hbit hj hv)
        clear hv hbit HR
        go_wp2
        go_roundw
        case rel => exact ⟨k + 1, _, by omega, by go_num, HR2.out⟩
        case measure => simp [intOf]; omega
      · have q1 := bit_at c k 0 hc (by omega)
        have HR2 := trel_zero HR hlt (by omega)
        clear hbit HR
        go_wp2
        go_roundw
        case rel => exact ⟨k + 1, _, by omega, by go_num, HR2⟩
        case measure => simp [intOf]; omega
    · go_wp2
      obtain ⟨h1, h2, h3, h4, h5, h6⟩ := HR
      rw [show 32 - k = 0 from by omega] at h2
      simp only [Crc.turnGo] at h2
      rw [conv_back wr B cap s.size l h1 h3, h2]
      have h6' := Lib.hid h6
      rw [HB.out] at h6'
      have hn32 : n + 32 ≤ 8 * s.size := by omega
      clear h2 h3 h4 h5 h6 h1
      go_wp2
      go_ret
      exact ⟨n, hn32, rfl, h6'.out⟩

/-- 'turned', at any place. -/
theorem turned_any (s : ByteArray) (x : Int) (c : Nat) (hx : -9223372036854775808 ≤ x ∧ x ≤ 9223372036854775807) (hc : c < 4294967296) (hs : s.size ≤ 304) (h5 : 5 ≤ s.size) (w : World) :
    Calls Tryd.prog 21 #[.string s, .int .i64 x, .int .u32 (c : Nat)] w fun e w' => Turns s c w e w' := by
  by_cases h : 0 ≤ x
  · exact turned_pos s x c h hx.2 hc hs h5 w
  · exact turned_neg s x c (by omega) hx.1 hc hs h5 w

theorem turned_size (s : ByteArray) (n c : Nat) : (⟨(Crc.turned n c s.data.toList).toArray⟩ : ByteArray).size = s.size := by
  have h := Crc.turned_length n c s.data.toList
  have h2 : s.data.toList.length = s.size := by simp
  have h3 : (⟨(Crc.turned n c s.data.toList).toArray⟩ : ByteArray).size = (Crc.turned n c s.data.toList).length := by
    show (Crc.turned n c s.data.toList).toArray.size = _
    simp
  omega
end Go.Proofs.YtmbgeinjifhagaaDoor
