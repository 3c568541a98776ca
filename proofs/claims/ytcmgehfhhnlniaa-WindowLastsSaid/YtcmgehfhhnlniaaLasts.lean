/- scriniumlaw14.WindowLasts, called with any three pairs of numbers, returns true and leaves its arguments as they were. Conditions: none. -/
import Derived.Test.YtcmgehfhhnlniaaFrame
import Derived.Test.YtcmgehfhhnlniaaPlain
import Derived.Test.YtcmgehfhhnlniaaAwake
import Derived.Test.YtcmgehfhhnlniaaMore
namespace Go.Proofs.Ytcmgehfhhnlniaa
open Go.ChangeShapes Go.WideShapes Go.ChangeAt Go.RowKit

set_option maxHeartbeats 800000 in
theorem windowLasts_walk (x0 x1 y0 y1 z0 z1 : Int) (hx0 : -9223372036854775808 ≤ x0 ∧ x0 ≤ 9223372036854775807) (hx1 : -9223372036854775808 ≤ x1 ∧ x1 ≤ 9223372036854775807)
    (hy0 : -9223372036854775808 ≤ y0 ∧ y0 ≤ 9223372036854775807) (hy1 : -9223372036854775808 ≤ y1 ∧ y1 ≤ 9223372036854775807) (hz0 : -9223372036854775808 ≤ z0 ∧ z0 ≤ 9223372036854775807) (hz1 : -9223372036854775808 ≤ z1 ∧ z1 ≤ 9223372036854775807) (W : World) :
    Calls Try.prog 6 #[.agg #[.int .i64 x0, .int .i64 x1], .agg #[.int .i64 y0, .int .i64 y1], .agg #[.int .i64 z0, .int .i64 z1]] W fun e w' => e = .returned (.bool true) ∧ Below W.heap.size W w' := by
  have HX0 := Lib.hid hx0; clear hx0
  have HX1 := Lib.hid hx1; clear hx1
  have HY0 := Lib.hid hy0; clear hy0
  have HY1 := Lib.hid hy1; clear hy1
  have HZ0 := Lib.hid hz0; clear hz0
  have HZ1 := Lib.hid hz1; clear hz1
  go_enter Try.func6, Try.ntmps6
  go_wp2_with fail
  refine (awake_any _).mono ?_
  rintro e w1 ⟨rfl, hb1⟩
  have c0 : w1.cell? ⟨W.heap.size, 0, none⟩ = some (.int .i64 x0) := by rw [hb1.cell (p := ⟨W.heap.size, 0, none⟩) (by simp; omega)]; simp [go_sem]
  have c1 : w1.cell? ⟨W.heap.size, 1, none⟩ = some (.int .i64 x1) := by rw [hb1.cell (p := ⟨W.heap.size, 1, none⟩) (by simp; omega)]; simp [go_sem]
  have c2 : w1.cell? ⟨W.heap.size + 1, 0, none⟩ = some (.int .i64 y0) := by rw [hb1.cell (p := ⟨W.heap.size + 1, 0, none⟩) (by simp)]; simp [go_sem]
  have c3 : w1.cell? ⟨W.heap.size + 1, 1, none⟩ = some (.int .i64 y1) := by rw [hb1.cell (p := ⟨W.heap.size + 1, 1, none⟩) (by simp)]; simp [go_sem]
  have c4 : w1.cell? ⟨W.heap.size + 1 + 1, 0, none⟩ = some (.int .i64 z0) := by rw [hb1.cell (p := ⟨W.heap.size + 1 + 1, 0, none⟩) (by simp)]; simp [go_sem]
  have c5 : w1.cell? ⟨W.heap.size + 1 + 1, 1, none⟩ = some (.int .i64 z1) := by rw [hb1.cell (p := ⟨W.heap.size + 1 + 1, 1, none⟩) (by simp)]; simp [go_sem]
  have b1 := ((((Below.refl W.heap.size W).alloc (Nat.le_refl _) _).alloc (by simp) _).alloc (by simp; omega) _).trans (hb1.mono (by simp; omega))
  clear hb1
  go_wp2_with fail
  refine (kept_any x0 1048576 _ HX0.out (by omega) (by omega)).mono ?_
  rintro e w2 ⟨⟨w, rfl, wa, wb⟩, rfl⟩
  go_wp2_with fail
  refine (kept_any x1 1048576 _ HX1.out (by omega) (by omega)).mono ?_
  rintro e w2 ⟨⟨b', rfl, b0', b1'⟩, rfl⟩
  obtain ⟨b, hb⟩ : ∃ b, 1 + b' = b := ⟨_, rfl⟩
  have b0 : 1 ≤ b := by omega
  have bm : b ≤ 1048577 := by omega
  go_wp2_with fail
  refine (kept_any y0 1073741824 _ HY0.out (by omega) (by omega)).mono ?_
  rintro e w2 ⟨⟨s, rfl, s0, s1⟩, rfl⟩
  go_wp2_with fail
  refine (kept_any y1 1073741824 _ HY1.out (by omega) (by omega)).mono ?_
  rintro e w2 ⟨⟨l', rfl, l0', l1'⟩, rfl⟩
  obtain ⟨l, hl⟩ : ∃ l, s + l' = l := ⟨_, rfl⟩
  have l0 : s ≤ l := by omega
  have lm : l ≤ 2147483648 := by omega
  go_wp2_with fail
  refine (kept_any z0 35184372088832 _ HZ0.out (by omega) (by omega)).mono ?_
  rintro e w2 ⟨⟨t, rfl, t0, t1⟩, rfl⟩
  go_wp2_with fail
  refine (kept_any z1 35184372088832 _ HZ1.out (by omega) (by omega)).mono ?_
  rintro e w2 ⟨⟨u', rfl, u0', u1'⟩, rfl⟩
  obtain ⟨u, hu⟩ : ∃ u, t + u' = u := ⟨_, rfl⟩
  have u0 : t ≤ u := by omega
  have um : u ≤ 70368744177664 := by omega
  have XA := Lib.hid (expired_any w b s t)
  have CA := Lib.hid (closed_any w b t)
  have XB := Lib.hid (expired_any w b s u)
  have XC := Lib.hid (expired_any w b l t)
  have OA := Lib.hid (of_any t b)
  have F1 := Lib.hid (@lasts_closed w b s t)
  have F2 := Lib.hid (fun h => @lasts_later w b s t u h u0 (by omega))
  have F3 := Lib.hid (fun h => @lasts_sooner w b s l t h s0 l0)
  have F4 := Lib.hid (@lasts_of w b t)
  generalize ofF t b = o at *
  clear c0 c1 c2 c3 c4 c5 HX0 HX1 HY0 HY1 HZ0 HZ1
  cases hxa : exB w b s t
  · -- not expired
    have hxc : exB w b l t = false := by
      cases h : exB w b l t
      · rfl
      · rw [F3.out h] at hxa; cases hxa
    rw [hxa] at XA
    rw [hxc] at XC
    clear hxa hxc F1 F2 F3
    go_wp2_with fail
    refine (XA.out _).mono ?_
    rintro e w2 ⟨rfl, hb2⟩
    have b2 := b1.trans (hb2.mono b1.size)
    go_wp2_with fail
    refine (XC.out _).mono ?_
    rintro e w3 ⟨rfl, hb3⟩
    have b3 := b2.trans (hb3.mono b2.size)
    cases hc : clB w b t
    · rw [hc] at CA
      clear hc F4
      go_wp2_with fail
      refine (CA.out _).mono ?_
      rintro e w4 ⟨rfl, hb4⟩
      have b4 := b3.trans (hb4.mono b3.size)
      go_wp2
      go_ret
      exact ⟨rfl, b4⟩
    · have ho : decide (w < o) = true := decide_eq_true (F4.out hc)
      rw [hc] at CA
      clear hc F4
      go_wp2_with fail
      refine (CA.out _).mono ?_
      rintro e w4 ⟨rfl, hb4⟩
      have b4 := b3.trans (hb4.mono b3.size)
      go_wp2_with fail
      refine (OA.out _).mono ?_
      rintro e w5 ⟨rfl, hb5⟩
      have b5 := b4.trans (hb5.mono b4.size)
      go_wp2
      go_ret
      exact ⟨rfl, b5⟩
  · have hc : clB w b t = true := F1.out hxa
    have hxb : exB w b s u = true := F2.out hxa
    have ho : decide (w < o) = true := decide_eq_true (F4.out hc)
    rw [hxa] at XA
    rw [hxb] at XB
    rw [hc] at CA
    clear hc hxa hxb F1 F2 F3 F4
    go_wp2_with fail
    refine (XA.out _).mono ?_
    rintro e w2 ⟨rfl, hb2⟩
    have b2 := b1.trans (hb2.mono b1.size)
    go_wp2_with fail
    refine (CA.out _).mono ?_
    rintro e w3 ⟨rfl, hb3⟩
    have b3 := b2.trans (hb3.mono b2.size)
    go_wp2_with fail
    refine (XB.out _).mono ?_
    rintro e w4 ⟨rfl, hb4⟩
    have b4 := b3.trans (hb4.mono b3.size)
    clear b2 b3 hb2 hb3 hb4
    cases hxc : exB w b l t
    · rw [hxc] at XC
      clear hxc
      go_wp2_with fail
      refine (XC.out _).mono ?_
      rintro e w5 ⟨rfl, hb5⟩
      have b5 := b4.trans (hb5.mono b4.size)
      go_wp2_with fail
      refine (CA.out _).mono ?_
      rintro e w6 ⟨rfl, hb6⟩
      have b6 := b5.trans (hb6.mono b5.size)
      go_wp2_with fail
      refine (OA.out _).mono ?_
      rintro e w7 ⟨rfl, hb7⟩
      have b7 := b6.trans (hb7.mono b6.size)
      go_wp2
      go_ret
      exact ⟨rfl, b7⟩
    · rw [hxc] at XC
      clear hxc
      go_wp2_with fail
      refine (XC.out _).mono ?_
      rintro e w5 ⟨rfl, hb5⟩
      have b5 := b4.trans (hb5.mono b4.size)
      go_wp2_with fail
      refine (XA.out _).mono ?_
      rintro e w8 ⟨rfl, hb8⟩
      have b8 := b5.trans (hb8.mono b5.size)
      go_wp2_with fail
      refine (CA.out _).mono ?_
      rintro e w6 ⟨rfl, hb6⟩
      have b6 := b8.trans (hb6.mono b8.size)
      go_wp2_with fail
      refine (OA.out _).mono ?_
      rintro e w7 ⟨rfl, hb7⟩
      have b7 := b6.trans (hb7.mono b6.size)
      go_wp2
      go_ret
      exact ⟨rfl, b7⟩

namespace WindowLasts
set_option maxRecDepth 100000 in
theorem lifted (os : Os) (started : os.Started) (H : Type) (enc : TypeId × Value → H) :
    ReturnsInHanded {} Try.checked os 6 .any (Rows.windowLastsSpec.pre6 enc Try.prog Try.f6 Rows.windowLastsRow.domain false) (Rows.windowLastsSpec.post enc Try.prog Try.f6 false true false false) := by
  refine returnsInHanded_of_change (C := Try.checked) own started (by kernel_rfl) Try.func6
    (ChangeSpec.witness6 (enc := enc) (C := Try.checked) false ⟨#[], #[.agg #[.int .i64 0, .int .i64 0], .agg #[.int .i64 0, .int .i64 0], .agg #[.int .i64 0, .int .i64 0]], []⟩ 8 (by kernel_rfl) (by kernel_rfl) (by kernel_rfl) (by kernel_rfl)) ?_
  intro W base args ds gs before hval0 hW hcnd _
  have hval : ∀ (j : Nat) t v, Try.f6.params[j]? = some t → args[j]? = some v → Value.okWide Try.prog W .any base t v := hval0
  have hW' := hW
  obtain ⟨p, q, hA0, hV, rfl, hfz, hnd⟩ := hW
  have hA : DataW.TrodAll enc Try.prog W 0 (fun _ => true) true Try.f6.params.toList args.toList ds p := hA0
  rw [Try.params6] at hA hval
  obtain ⟨v0, vs0, d0, ds0, p0, q0, hargs, rfl, rfl, h0, r0⟩ := trodAll_cons hA
  obtain ⟨v1, vs1, d1, ds1, p1, q1, rfl, rfl, rfl, h1, r1⟩ := trodAll_cons r0
  obtain ⟨v2, vs2, d2, ds2, p2, q2, rfl, rfl, rfl, h2, r2⟩ := trodAll_cons r1
  obtain ⟨rfl, rfl, rfl⟩ := trodAll_nil r2
  obtain rfl : args = #[v0, v1, v2] := by cases args; simp_all
  obtain ⟨rfl, rfl⟩ := trodVars_none hV
  obtain ⟨a0, b0, rfl, rfl, rfl, wa0, wb0⟩ := open_ints2 Try.underlying33 Try.underlying3 cells3 cells33 (hval 0 33 v0 rfl rfl) h0
  obtain ⟨a1, b1, rfl, rfl, rfl, wa1, wb1⟩ := open_ints2 Try.underlying33 Try.underlying3 cells3 cells33 (hval 1 33 v1 rfl rfl) h1
  obtain ⟨a2, b2, rfl, rfl, rfl, wa2, wb2⟩ := open_ints2 Try.underlying33 Try.underlying3 cells3 cells33 (hval 2 33 v2 rfl rfl) h2
  clear hA0 hval0 hcnd
  simp only [List.append_nil] at hW'
  refine (windowLasts_walk a0 b0 a1 b1 a2 b2 (bounds_i64 wa0) (bounds_i64 wb0) (bounds_i64 wa1) (bounds_i64 wb1) (bounds_i64 wa2) (bounds_i64 wb2) W).mono fun e W' ⟨he, hb⟩ => ?_
  subst he
  exact ⟨_, rfl, post_under (pa := []) (pv := []) hW' (fun _ _ _ => trodAll_cons_mk (shut_bool Try.underlying4 _) trodAll_mk0)
    (trodAll_cons_mk (shut_ints2 Try.underlying33 Try.underlying3 cells3 cells33 wa0 wb0) (trodAll_cons_mk (shut_ints2 Try.underlying33 Try.underlying3 cells3 cells33 wa1 wb1) (trodAll_cons_mk (shut_ints2 Try.underlying33 Try.underlying3 cells3 cells33 wa2 wb2) trodAll_mk0))) (fun _ => rfl) rfl hb⟩
end WindowLasts

theorem windowLasts_holds : Rows.WindowLastsSaid :=
  OpenClaim.holds_of_wide 6 Try.f6 rfl rfl rfl rfl rfl rfl rfl ⟨rfl, rfl, rfl, rfl, rfl⟩ rfl rfl rfl rfl rfl (by kernel_rfl) Try.func6 (by kernel_rfl)
    (of_decide_eq_true (by kernel_rfl)) (by unfold Func.isWrapper; first | (rw [if_pos (by decide +kernel)]; kernel_rfl) | (rw [if_neg (by decide +kernel)]; exact ⟨rfl, rfl⟩))
    (fun os started H enc _ => WindowLasts.lifted os started H enc)
#print axioms windowLasts_holds
end Go.Proofs.Ytcmgehfhhnlniaa
