/- Plain facts about CRC-32 over lists of bytes: a bit step on Nat, linear in xor; a message as a little-endian number. No program in it. -/
namespace Go.Proofs.YtmbgeinjifhagaaDoor.Crc

def stp (c : Nat) : Nat := if c % 2 = 1 then (c / 2) ^^^ 3988292384 else c / 2
def stps : Nat → Nat → Nat
  | 0, c => c
  | k + 1, c => stps k (stp c)

theorem xor_half (a b : Nat) : (a ^^^ b) / 2 = (a / 2) ^^^ (b / 2) := by
  apply Nat.eq_of_testBit_eq
  intro i
  simp [Nat.testBit_xor, Nat.testBit_div_two]

theorem xor_par (a b : Nat) : (a ^^^ b) % 2 = (a % 2 + b % 2) % 2 := by
  have h := Nat.testBit_xor (x := a) (y := b) (i := 0)
  simp only [Nat.testBit_zero] at h
  rcases Nat.mod_two_eq_zero_or_one a with ha | ha <;> rcases Nat.mod_two_eq_zero_or_one b with hb | hb <;>
    rcases Nat.mod_two_eq_zero_or_one (a ^^^ b) with hc | hc <;> simp [ha, hb, hc] at h ⊢

theorem xor_mid (a b c : Nat) : a ^^^ b ^^^ (c ^^^ c) = a ^^^ b := by simp

theorem stp_xor (a b : Nat) : stp (a ^^^ b) = stp a ^^^ stp b := by
  unfold stp
  rw [xor_half, xor_par]
  rcases Nat.mod_two_eq_zero_or_one a with ha | ha <;> rcases Nat.mod_two_eq_zero_or_one b with hb | hb <;> simp only [ha, hb]
  · simp
  · simp [Nat.xor_assoc]
  · simp only [if_true, Nat.zero_ne_one, if_false]
    rw [Nat.xor_assoc, Nat.xor_comm (b / 2), ← Nat.xor_assoc]
  · simp only [Nat.reduceAdd, Nat.reduceMod, if_true, Nat.zero_ne_one, if_false]
    apply Nat.eq_of_testBit_eq
    intro i
    simp only [Nat.testBit_xor]
    cases (a / 2).testBit i <;> cases (b / 2).testBit i <;> cases Nat.testBit 3988292384 i <;> rfl

theorem stps_xor (k : Nat) : ∀ a b, stps k (a ^^^ b) = stps k a ^^^ stps k b := by
  induction k with
  | zero => intro a b; rfl
  | succ k ih => intro a b; simp only [stps]; rw [stp_xor, ih]

theorem stps_add (j : Nat) : ∀ (k c : Nat), stps (j + k) c = stps k (stps j c) := by
  induction j with
  | zero => intro k c; simp [stps]
  | succ j ih => intro k c; rw [show j + 1 + k = (j + k) + 1 from by omega]; simp only [stps]; exact ih k _

theorem stp_double (x : Nat) : stp (2 * x) = x := by
  unfold stp; rw [if_neg (by omega)]; omega

theorem stps_shl (k : Nat) : ∀ x, stps k (x <<< k) = x := by
  induction k with
  | zero => intro x; simp [stps]
  | succ k ih =>
    intro x
    simp only [stps]
    rw [show x <<< (k + 1) = 2 * (x <<< k) from by rw [Nat.shiftLeft_eq, Nat.shiftLeft_eq, Nat.pow_succ]; rw [← Nat.mul_assoc, Nat.mul_comm]]
    rw [stp_double, ih]

theorem stp_lt (c : Nat) (h : c < 4294967296) : stp c < 4294967296 := by
  unfold stp
  split
  · exact Nat.xor_lt_two_pow (n := 32) (by omega) (by omega)
  · omega

theorem stps_lt (k : Nat) : ∀ c, c < 4294967296 → stps k c < 4294967296 := by
  induction k with
  | zero => intro c h; exact h
  | succ k ih => intro c h; exact ih _ (stp_lt c h)

theorem xor_zero_eq {a b : Nat} (h : a ^^^ b = 0) : a = b := by
  apply Nat.eq_of_testBit_eq
  intro i
  have := congrArg (fun n => n.testBit i) h
  simp [Nat.testBit_xor] at this
  exact this

theorem stp_zero (c : Nat) (h : c < 4294967296) (h0 : stp c = 0) : c = 0 := by
  unfold stp at h0
  split at h0
  · have := xor_zero_eq h0
    omega
  · omega

theorem stps_zero (k : Nat) : ∀ c, c < 4294967296 → stps k c = 0 → c = 0 := by
  induction k with
  | zero => intro c _ h; exact h
  | succ k ih => intro c h h0; exact stp_zero c h (ih _ (stp_lt c h) h0)

theorem stps_of_zero (k : Nat) : stps k 0 = 0 := by
  induction k with
  | zero => rfl
  | succ k ih => simp only [stps]; exact ih

theorem xor_lt32 {a b : Nat} (ha : a < 4294967296) (hb : b < 4294967296) : a ^^^ b < 4294967296 := Nat.xor_lt_two_pow (n := 32) ha hb

theorem stps_inj (k a b : Nat) (ha : a < 4294967296) (hb : b < 4294967296) (h : stps k a = stps k b) : a = b := by
  apply xor_zero_eq
  apply stps_zero k _ (xor_lt32 ha hb)
  rw [stps_xor, h, Nat.xor_self]

/-- The bytes as a number, the least first. -/
def le : List UInt8 → Nat
  | [] => 0
  | b :: l => b.toNat ^^^ (le l <<< 8)

def crc (c : Nat) (l : List UInt8) : Nat := l.foldl (fun c b => stps 8 (c ^^^ b.toNat)) c

theorem crc_le (l : List UInt8) : ∀ c, crc c l = stps (8 * l.length) (c ^^^ le l) := by
  induction l with
  | nil => intro c; simp [crc, le, stps]
  | cons b l ih =>
    intro c
    have : crc c (b :: l) = crc (stps 8 (c ^^^ b.toNat)) l := rfl
    rw [this, ih, show 8 * (b :: l).length = 8 + 8 * l.length from by simp; omega, stps_add]
    simp only [le]
    rw [← Nat.xor_assoc, stps_xor 8 (c ^^^ b.toNat), stps_shl]

theorem crc_append (c : Nat) (a b : List UInt8) : crc c (a ++ b) = crc (crc c a) b := by simp [crc]

theorem crc_lt (l : List UInt8) : ∀ c, c < 4294967296 → crc c l < 4294967296 := by
  induction l with
  | nil => intro c h; exact h
  | cons b l ih => intro c h; exact ih _ (stps_lt 8 _ (xor_lt32 h (by have := b.toNat_lt; omega)))

/-- Nibble steps. -/
def tab (i : Nat) : Nat := [0x00000000, 0x1db71064, 0x3b6e20c8, 0x26d930ac, 0x76dc4190, 0x6b6b51f4, 0x4db26158, 0x5005713c, 0xedb88320, 0xf00f9344, 0xd6d6a3e8, 0xcb61b38c, 0x9b64c2b0, 0x86d3d2d4, 0xa00ae278, 0xbdbdf21c].getD i 0

theorem tab_eq : ∀ i, i < 16 → tab i = stps 4 i := by decide

theorem nib (c : Nat) : stps 4 c = (c / 16) ^^^ tab (c % 16) := by
  have h : c = ((c / 16) <<< 4) ^^^ (c % 16) := by
    apply Nat.eq_of_testBit_eq
    intro i
    rw [Nat.testBit_xor, Nat.testBit_shiftLeft]
    rw [show c / 16 = c >>> 4 from by rw [Nat.shiftRight_eq_div_pow], Nat.testBit_shiftRight, show c % 16 = c % 2 ^ 4 from rfl, Nat.testBit_mod_two_pow]
    by_cases hi : 4 ≤ i
    · have : ¬ i < 4 := by omega
      simp [hi, this, show 4 + (i - 4) = i from by omega]
    · have : i < 4 := by omega
      simp [hi, this]
  rw [tab_eq _ (Nat.mod_lt _ (by decide))]
  conv => lhs; rw [h]
  rw [stps_xor, stps_shl]


theorem le_arith (b : UInt8) (l : List UInt8) : le (b :: l) = b.toNat + 256 * le l := by
  simp only [le]
  have hb : b.toNat < 2 ^ 8 := b.toNat_lt
  apply Nat.eq_of_testBit_eq
  intro i
  rw [show b.toNat + 256 * le l = 2 ^ 8 * le l + b.toNat from by omega, Nat.testBit_two_pow_mul_add _ hb, Nat.testBit_xor, Nat.testBit_shiftLeft]
  by_cases hi : i < 8
  · have : ¬ i ≥ 8 := by omega
    simp [hi, this]
  · have h2 : i ≥ 8 := by omega
    have h3 : b.toNat.testBit i = false := Nat.testBit_lt_two_pow (Nat.lt_of_lt_of_le hb (Nat.pow_le_pow_right (by decide) h2))
    simp [hi, h2, h3]

theorem le_lt (l : List UInt8) : le l < 256 ^ l.length := by
  induction l with
  | nil => simp [le]
  | cons b l ih =>
    rw [le_arith, List.length_cons, Nat.pow_succ]
    have := b.toNat_lt
    omega

theorem le_inj : ∀ (a b : List UInt8), a.length = b.length → le a = le b → a = b
  | [], [], _, _ => rfl
  | x :: a, y :: b, hl, h => by
    rw [le_arith, le_arith] at h
    have hx := x.toNat_lt
    have hy := y.toNat_lt
    have e1 : x = y := UInt8.toNat_inj.1 (by omega)
    have e2 : le a = le b := by omega
    rw [e1, le_inj a b (by simpa using hl) e2]

/-- A number in four bytes, the least first. -/
def four (n : Nat) : List UInt8 := [UInt8.ofNat (n % 256), UInt8.ofNat (n / 256 % 256), UInt8.ofNat (n / 65536 % 256), UInt8.ofNat (n / 16777216 % 256)]

theorem le_four (n : Nat) (h : n < 4294967296) : le (four n) = n := by
  unfold four
  simp only [le_arith]
  simp only [le, UInt8.toNat_ofNat']
  omega

theorem not32 (c : Nat) (h : c < 4294967296) : 4294967295 - c = c ^^^ 4294967295 := by
  have := BitVec.not_def (x := BitVec.ofNat 32 c)
  have h2 : (~~~ (BitVec.ofNat 32 c)).toNat = 4294967295 - c := by simp [BitVec.toNat_not, Nat.mod_eq_of_lt h]
  rw [← h2]
  have h3 : (BitVec.ofNat 32 c ^^^ BitVec.ofNat 32 4294967295).toNat = c ^^^ 4294967295 := by
    rw [BitVec.toNat_xor]; simp [Nat.mod_eq_of_lt h]
  rw [← h3]
  congr 1
  apply BitVec.eq_of_getLsbD_eq
  intro i hi
  simp only [BitVec.getLsbD_not, BitVec.getLsbD_xor, hi]
  have : (BitVec.ofNat 32 4294967295).getLsbD i = true := by
    have : ∀ i, i < 32 → (BitVec.ofNat 32 4294967295).getLsbD i = true := by decide
    exact this i hi
  simp [this]

/-- The sum of a text with more behind. -/
def add (c : Nat) (l : List UInt8) : Nat := 4294967295 - crc (4294967295 - c) l
def of (l : List UInt8) : Nat := add 0 l
def sealed (l : List UInt8) : List UInt8 := l ++ four (of l)

theorem add_lt (c : Nat) (l : List UInt8) : add c l < 4294967296 := by unfold add; omega

theorem add_nil (c : Nat) (h : c < 4294967296) : add c [] = c := by unfold add; simp [crc]; omega

theorem add_append (c : Nat) (a b : List UInt8) : add (add c a) b = add c (a ++ b) := by
  unfold add
  have := crc_lt a (4294967295 - c) (by omega)
  rw [crc_append, show 4294967295 - (4294967295 - crc (4294967295 - c) a) = crc (4294967295 - c) a from by omega]

theorem crc_four (st n : Nat) (h : n < 4294967296) : crc st (four n) = stps 32 (st ^^^ n) := by
  rw [crc_le, le_four n h]; rfl

theorem full : 4294967295 - stps 32 4294967295 = 558161692 := by decide +kernel

theorem of_app (p q : List UInt8) : of (p ++ q) = 4294967295 - crc (crc 4294967295 p) q := by
  unfold of add; rw [crc_append]

theorem of_sealed (l : List UInt8) : of (sealed l) = 558161692 := by
  unfold sealed
  rw [of_app, crc_four _ (of l) (add_lt 0 l)]
  have hl := crc_lt l 4294967295 (by decide)
  have e : crc 4294967295 l ^^^ of l = 4294967295 := by
    unfold of add
    rw [not32 _ hl, ← Nat.xor_assoc, Nat.xor_self, Nat.zero_xor]
  rw [e]
  exact full

theorem whole_parts (p q : List UInt8) (hq : q.length = 4) : of (p ++ q) = 558161692 ↔ q = four (of p) := by
  constructor
  · intro h
    rw [of_app] at h
    have hl := crc_lt p 4294967295 (by decide)
    have hql : le q < 4294967296 := by have := le_lt q; rw [hq] at this; exact this
    have h1 : crc (crc 4294967295 p) q = stps 32 (crc 4294967295 p ^^^ le q) := by rw [crc_le, hq]
    have h2 := stps_lt 32 _ (xor_lt32 hl hql)
    have h3 := stps_lt 32 4294967295 (by decide)
    have h4 := full
    have h5 : stps 32 (crc 4294967295 p ^^^ le q) = stps 32 4294967295 := by omega
    have h6 := stps_inj 32 _ _ (xor_lt32 hl hql) (by decide) h5
    have h7 : le q = of p := by
      unfold of add
      show le q = 4294967295 - crc 4294967295 p
      generalize crc 4294967295 p = c at *
      rw [not32 _ hl, ← h6, ← Nat.xor_assoc, Nat.xor_self, Nat.zero_xor]
    apply le_inj _ _ (by rw [hq]; rfl)
    rw [h7, le_four (of p) (add_lt 0 p)]
  · intro h
    rw [h]
    exact of_sealed p

theorem whole_iff (l : List UInt8) (h : 4 ≤ l.length) : of l = 558161692 ↔ sealed (l.take (l.length - 4)) = l := by
  have e := List.take_append_drop (l.length - 4) l
  have hq : (l.drop (l.length - 4)).length = 4 := by simp; omega
  have := whole_parts (l.take (l.length - 4)) (l.drop (l.length - 4)) hq
  rw [e] at this
  rw [this]
  constructor
  · intro h2
    unfold sealed
    rw [← h2]; exact e
  · intro h2
    unfold sealed at h2
    exact (List.append_cancel_left (h2.trans e.symm)).symm

/-- Bits in a row are turned: the sums differ. -/
theorem of_turned (s t : List UInt8) (n b : Nat) (hl : t.length = s.length) (hn : n + 32 ≤ 8 * s.length) (hb : b < 4294967296) (hb0 : b ≠ 0)
    (h : le t = le s ^^^ (b <<< n)) : of t ≠ of s := by
  intro he
  unfold of add at he
  have h1 := crc_lt s 4294967295 (by decide)
  have h2 := crc_lt t 4294967295 (by decide)
  have h3 : crc 4294967295 t = crc 4294967295 s := by
    simp only [Nat.sub_zero] at he
    omega
  rw [crc_le, crc_le, hl, h, ← Nat.xor_assoc, stps_xor (8 * s.length) (4294967295 ^^^ le s)] at h3
  have h4 : stps (8 * s.length) (b <<< n) = 0 := by
    have := congrArg (fun x => stps (8 * s.length) (4294967295 ^^^ le s) ^^^ x) h3
    simp only [← Nat.xor_assoc, Nat.xor_self, Nat.zero_xor] at this
    exact this
  rw [show 8 * s.length = n + (8 * s.length - n) from by omega, stps_add, stps_shl] at h4
  exact hb0 (stps_zero _ _ hb h4)

/-- One bit of a text turned. -/
theorem le_set : ∀ (l : List UInt8) (j : Nat) (v : Nat), v < 256 → (h : j < l.length) → le (l.set j (UInt8.ofNat (l[j].toNat ^^^ v))) = le l ^^^ (v <<< (8 * j))
  | b :: l, 0, v, hv, _ => by
    have h8 : b.toNat ^^^ v < 256 := Nat.xor_lt_two_pow (n := 8) b.toNat_lt hv
    simp only [List.set_cons_zero, List.getElem_cons_zero, le, UInt8.toNat_ofNat', Nat.mul_zero, Nat.shiftLeft_zero]
    rw [Nat.mod_eq_of_lt h8, Nat.xor_assoc, Nat.xor_comm v, ← Nat.xor_assoc]
  | b :: l, j + 1, v, hv, h => by
    simp only [List.set_cons_succ, List.getElem_cons_succ, le]
    rw [le_set l j v hv (by simpa using h), Nat.shiftLeft_xor_distrib, ← Nat.shiftLeft_add, ← Nat.xor_assoc]
    rfl

/-- The bits that were looked at, and one more. -/
theorem low_one (b i : Nat) (h : b / 2 ^ i % 2 = 1) : b % 2 ^ (i + 1) = (b % 2 ^ i) ^^^ 2 ^ i := by
  have hb : b.testBit i = true := by rw [Nat.testBit_eq_decide_div_mod_eq]; simp [h]
  apply Nat.eq_of_testBit_eq
  intro k
  rw [Nat.testBit_xor, Nat.testBit_mod_two_pow, Nat.testBit_mod_two_pow, Nat.testBit_two_pow]
  by_cases hk : k < i
  · have h1 : k < i + 1 := by omega
    have h2 : ¬ i = k := by omega
    simp [hk, h1, h2]
  · by_cases hki : i = k
    · subst hki
      simp [hb]
    · have h1 : ¬ k < i + 1 := by omega
      simp [hk, h1, hki]
theorem low_zero (b i : Nat) (h : b / 2 ^ i % 2 = 0) : b % 2 ^ (i + 1) = b % 2 ^ i := by
  have hb : b.testBit i = false := by rw [Nat.testBit_eq_decide_div_mod_eq]; simp [h]
  apply Nat.eq_of_testBit_eq
  intro k
  rw [Nat.testBit_mod_two_pow, Nat.testBit_mod_two_pow]
  by_cases hk : k < i
  · have h1 : k < i + 1 := by omega
    simp [hk, h1]
  · by_cases hki : i = k
    · subst hki
      simp [hb]
    · have h1 : ¬ k < i + 1 := by omega
      simp [hk, h1]

/-- What turning does, bit by bit: from bit i of the mask on, 'left' bits to come; from place n on. -/
def turnGo (n b : Nat) : Nat → Nat → List UInt8 → List UInt8
  | 0, _, l => l
  | k + 1, i, l => turnGo n b k (i + 1) (if b / 2 ^ i % 2 = 1 then l.set ((n + i) / 8) (UInt8.ofNat ((l.getD ((n + i) / 8) 0).toNat ^^^ 2 ^ ((n + i) % 8))) else l)
def turned (n b : Nat) (l : List UInt8) : List UInt8 := turnGo n b 32 0 l

theorem turnGo_length (n b : Nat) : ∀ (k i : Nat) (l : List UInt8), (turnGo n b k i l).length = l.length
  | 0, _, _ => rfl
  | k + 1, i, l => by
    rw [turnGo, turnGo_length n b k]
    split <;> simp
theorem turnGo_le (n b : Nat) (s : List UInt8) : ∀ (k i : Nat) (l : List UInt8), n + (i + k) ≤ 8 * l.length → le l = le s ^^^ ((b % 2 ^ i) <<< n) → le (turnGo n b k i l) = le s ^^^ ((b % 2 ^ (i + k)) <<< n)
  | 0, i, l, _, h => by simpa [turnGo] using h
  | k + 1, i, l, hl, h => by
    rw [turnGo, show i + (k + 1) = (i + 1) + k from by omega]
    have hj : (n + i) / 8 < l.length := by omega
    apply turnGo_le n b s k (i + 1)
    · split
      · rw [List.length_set]; omega
      · omega
    · split
      · rename_i h1
        have hp : 2 ^ ((n + i) % 8) < 256 := by
          have : 2 ^ ((n + i) % 8) < 2 ^ 8 := Nat.pow_lt_pow_right (by decide) (by omega)
          exact this
        rw [List.getD_eq_getElem?_getD, List.getElem?_eq_getElem hj, Option.getD_some, le_set l _ _ hp hj, h, low_one b i h1, Nat.shiftLeft_xor_distrib, Nat.xor_assoc]
        congr 2
        rw [Nat.shiftLeft_eq, Nat.shiftLeft_eq, ← Nat.pow_add, ← Nat.pow_add]
        congr 1
        omega
      · rename_i h1
        rw [h, low_zero b i (by omega)]

theorem turned_le (n b : Nat) (s : List UInt8) (hn : n + 32 ≤ 8 * s.length) (hb : b < 4294967296) : le (turned n b s) = le s ^^^ (b <<< n) := by
  have := turnGo_le n b s 32 0 s (by omega) (by simp [Nat.mod_one])
  rw [Nat.zero_add, show (2 : Nat) ^ 32 = 4294967296 from rfl, Nat.mod_eq_of_lt hb] at this
  exact this

theorem turned_length (n b : Nat) (s : List UInt8) : (turned n b s).length = s.length := turnGo_length n b 32 0 s

theorem turned_of (n b : Nat) (s : List UInt8) (hn : n + 32 ≤ 8 * s.length) (hb : b < 4294967296) (hb0 : b ≠ 0) : of (turned n b s) ≠ of s :=
  of_turned s _ n b (turned_length n b s) hn hb hb0 (turned_le n b s hn hb)

end Go.Proofs.YtmbgeinjifhagaaDoor.Crc
