/- scriniumlaw14.WindowClock, called with any list of numbers (nil too), returns true and leaves its argument as it was. Conditions: none. -/
import Derived.Test.YtcmgehfhhnlniaaFrame
import Derived.Test.YtcmgehfhhnlniaaPlain
import Derived.Test.YtcmgehfhhnlniaaAwake
import Derived.ChangeSlices
namespace Go.Proofs.Ytcmgehfhhnlniaa
open Go.ChangeShapes Go.WideShapes Go.ChangeAt Go.RowKit

/-- What the clock does at one tick. -/
theorem tick_val {n x : Int} (hn : 0 ≤ n) : (n ≤ x ∧ x ≤ 1125899906842624 ∧ tiV n x = x ∧ tiE n x = 0) ∨ (¬ (n ≤ x ∧ x ≤ 1125899906842624) ∧ tiV n x = n ∧ tiE n x = 21) := by
  by_cases h : n ≤ x ∧ x ≤ 1125899906842624
  · have e : tiB n x = true := by
      unfold tiB
      rw [isT_yes (by omega) h.2]; simp [h.1]
    exact .inl ⟨h.1, h.2, by simp [tiV, e], by simp [tiE, e]⟩
  · have e : tiB n x = false := by
      unfold tiB
      by_cases h1 : n ≤ x
      · rw [isT_high (by omega)]; rfl
      · simp [h1]
    exact .inr ⟨h, by simp [tiV, e], by simp [tiE, e]⟩

theorem clock_none (ao : Option Addr) (cap : Nat) (W : World) :
    Calls Try.prog 4 #[.slice ao 0 cap] W fun e w' => e = .returned (.bool true) ∧ Below W.heap.size W w' := by
  go_enter Try.func4, Try.ntmps4
  go_wp2_with fail
  refine (awake_any _).mono ?_
  rintro e w1 ⟨rfl, b1⟩
  go_wp2
  refine wp_loop_rounds 1 ?_
  rw [rounds_succ]
  go_wp2
  go_ret
  exact ⟨rfl, b1⟩

set_option maxHeartbeats 800000 in
theorem clock_some (b off len cap : Nat) (zs : List Int) (W : World) (hl : 0 < len) (hm : len ≤ 9223372036854775807) (hb : b < W.heap.size)
    (hc : ∀ j, j < len → W.cell? ⟨b, off + j, none⟩ = some (.int .i64 (zs.getD j 0))) :
    Calls Try.prog 4 #[.slice (some ⟨b, off, none⟩) len cap] W fun e w' => e = .returned (.bool true) ∧ Below W.heap.size W w' := by
  have HC := Lib.hid hc; clear hc
  go_enter Try.func4, Try.ntmps4
  go_wp2_with fail
  refine (awake_any _).mono ?_
  rintro e w1 ⟨rfl, b1⟩
  go_wp2
  go_loopw [4, 5] (fun v i wr => ∃ (n : Int) (k : Nat), 0 ≤ n ∧ k ≤ len ∧ v = .int .i64 n ∧ i = .int .i64 k ∧ Below W.heap.size W wr) (fun _ i _ => len - (intOf i).toNat)
  case atStart => exact ⟨0, 0, by omega, by omega, rfl, rfl, b1⟩
  case round =>
    clear b1
    obtain ⟨n, k, hn, hk, rfl, rfl, hbr⟩ := hrel
    have d9 : decide (0 ≤ n) = true := decide_eq_true hn
    by_cases hlt : k < len
    · have d1 : decide ((k : Int) < (len : Int)) = true := by simp [hlt]
      by_cases h30 : k < 30
      · have d2 : decide ((k : Int) < 30) = true := by simp; omega
        obtain ⟨x, hx⟩ : ∃ x, x = zs.getD k 0 := ⟨_, rfl⟩
        have c0 : wr.cell? ⟨b, off + k, none⟩ = some (.int .i64 x) := by rw [hbr.cell (p := ⟨b, off + k, none⟩) hb, hx]; exact HC.out k hlt
        have HX := Lib.hid hx
        clear hx
        have TC := Lib.hid (tick_any n x wr)
        rcases tick_val (x := x) hn with ⟨h1, h2, e1, e2⟩ | ⟨hno, e1, e2⟩
        · rw [e1, e2] at TC
          clear e1 e2
          have d3 : decide (n ≤ x) = true := decide_eq_true h1
          have d4 : decide (x ≤ 1125899906842624) = true := decide_eq_true h2
          go_wp2_with fail
          refine TC.out.mono ?_
          rintro e w2 ⟨rfl, hb2⟩
          have b2 := hbr.trans (hb2.mono hbr.size)
          have c1 : w2.cell? ⟨b, off + k, none⟩ = some (.int .i64 x) := by rw [b2.cell (p := ⟨b, off + k, none⟩) hb, HX.out]; exact HC.out k hlt
          clear c0 hb2 hbr TC
          go_wp2
          go_roundw
          case rel => exact ⟨x, k + 1, by omega, by omega, rfl, by go_num, b2⟩
          case measure => simp [intOf]; omega
        · rw [e1, e2] at TC
          clear e1 e2
          by_cases h1 : n ≤ x
          · have d3 : decide (n ≤ x) = true := decide_eq_true h1
            have d4 : decide (x ≤ 1125899906842624) = false := by simp; omega
            clear hno
            go_wp2_with fail
            refine TC.out.mono ?_
            rintro e w2 ⟨rfl, hb2⟩
            have b2 := hbr.trans (hb2.mono hbr.size)
            have c1 : w2.cell? ⟨b, off + k, none⟩ = some (.int .i64 x) := by rw [b2.cell (p := ⟨b, off + k, none⟩) hb, HX.out]; exact HC.out k hlt
            clear c0 hb2 hbr TC
            go_wp2
            go_roundw
            case rel => exact ⟨n, k + 1, by omega, by omega, rfl, by go_num, b2⟩
            case measure => simp [intOf]; omega
          · have d3 : decide (n ≤ x) = false := by simp; omega
            clear hno
            go_wp2_with fail
            refine TC.out.mono ?_
            rintro e w2 ⟨rfl, hb2⟩
            have b2 := hbr.trans (hb2.mono hbr.size)
            have c1 : w2.cell? ⟨b, off + k, none⟩ = some (.int .i64 x) := by rw [b2.cell (p := ⟨b, off + k, none⟩) hb, HX.out]; exact HC.out k hlt
            clear c0 hb2 hbr TC
            go_wp2
            go_roundw
            case rel => exact ⟨n, k + 1, by omega, by omega, rfl, by go_num, b2⟩
            case measure => simp [intOf]; omega
      · have d2 : decide ((k : Int) < 30) = false := by simp; omega
        go_wp2
        go_ret
        exact ⟨rfl, hbr⟩
    · have d1 : decide ((k : Int) < (len : Int)) = false := by simp; omega
      go_wp2
      go_ret
      exact ⟨rfl, hbr⟩

namespace WindowClock
set_option maxRecDepth 100000 in
theorem lifted (os : Os) (started : os.Started) (H : Type) (enc : TypeId × Value → H) :
    ReturnsInHanded {} Try.checked os 4 .any (Rows.windowClockSpec.pre6 enc Try.prog Try.f4 Rows.windowClockRow.domain false) (Rows.windowClockSpec.post enc Try.prog Try.f4 false true false false) := by
  refine returnsInHanded_of_change (C := Try.checked) own started (by kernel_rfl) Try.func4
    (ChangeSpec.witness6 (enc := enc) (C := Try.checked) false ⟨#[], #[.slice none 0 0], []⟩ 8 (by kernel_rfl) (by kernel_rfl) (by kernel_rfl) (by kernel_rfl)) ?_
  intro W base args ds gs before hval0 hW hcnd _
  have hval : ∀ (j : Nat) t v, Try.f4.params[j]? = some t → args[j]? = some v → Value.okWide Try.prog W .any base t v := hval0
  have hW' := hW
  obtain ⟨p, q, hA0, hV, rfl, hfz, hnd⟩ := hW
  have hA : DataW.TrodAll enc Try.prog W 0 (fun _ => true) true Try.f4.params.toList args.toList ds p := hA0
  rw [Try.params4] at hA hval
  obtain ⟨v0, d0, rfl, rfl, h0⟩ := trodAll_one hA
  obtain ⟨rfl, rfl⟩ := trodVars_none hV
  obtain ⟨ao, len, cap, rfl⟩ := okWide_slice Try.underlying27 (hval 0 27 v0 rfl rfl)
  have h0k := h0
  obtain ⟨fuel, hf⟩ := h0
  clear hA0 hval0 hcnd
  simp only [List.append_nil] at hW'
  have hlt : ∀ x ∈ p, x.block < W.heap.size := fun x hx => by simpa using hW'.lt x hx
  have walk : Calls Try.prog 4 #[.slice ao len cap] W fun e w' => e = .returned (.bool true) ∧ Below W.heap.size W w' := by
    rcases open_ints Try.underlying27 Try.underlying3 cells3 hf with ⟨hcs, hx⟩ | ⟨a, len', cap', zs, hcs, _, hl, hm, hz, hx, hcell, hwz⟩
    · simp [Value.cells] at hcs
      obtain ⟨rfl, rfl, rfl⟩ := hcs
      exact clock_none none 0 W
    · simp [Value.cells] at hcs
      obtain ⟨rfl, rfl, rfl⟩ := hcs
      simp only [if_true] at hz
      rcases Nat.eq_zero_or_pos len with h | h
      · subst h
        exact clock_none (some a) cap W
      · obtain ⟨b, off, rfl, hc⟩ := ints_at hcell (by omega)
        have hb : b < W.heap.size := by
          have h00 := hc 0 (by omega)
          rcases Nat.lt_or_ge b W.heap.size with h' | h'
          · exact h'
          · simp [World.cell?, h'] at h00
        exact clock_some b off len cap zs W h (by unfold maxLen at hm; omega) hb (fun j hj => hc j (by omega))
  refine walk.mono fun e W' ⟨he, hb⟩ => ?_
  subst he
  have hargs := Below.trod laidOut (by kernel_rfl) (of_decide_eq_true (by kernel_rfl)) h0k hb hlt
  exact ⟨_, rfl, post_under (pa := p) (pv := []) hW' (fun _ _ _ => trodAll_cons_mk (shut_bool Try.underlying4 _) trodAll_mk0) (trodAll_mk1 hargs) (fun _ => rfl) (by simp) hb⟩
end WindowClock

theorem windowClock_holds : Rows.WindowClockSaid :=
  OpenClaim.holds_of_wide 4 Try.f4 rfl rfl rfl rfl rfl rfl rfl ⟨rfl, rfl, rfl, rfl, rfl⟩ rfl rfl rfl rfl rfl (by kernel_rfl) Try.func4 (by kernel_rfl)
    (of_decide_eq_true (by kernel_rfl)) (by unfold Func.isWrapper; first | (rw [if_pos (by decide +kernel)]; kernel_rfl) | (rw [if_neg (by decide +kernel)]; exact ⟨rfl, rfl⟩))
    (fun os started H enc _ => WindowClock.lifted os started H enc)
#print axioms windowClock_holds
end Go.Proofs.Ytcmgehfhhnlniaa
