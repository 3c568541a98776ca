/- scriniumlaw14.WindowApart, called with any three numbers, returns true and leaves its arguments as they were. Conditions: none. -/
import Derived.Test.YtcmgehfhhnlniaaFrame
import Derived.Test.YtcmgehfhhnlniaaPlain
import Derived.Test.YtcmgehfhhnlniaaAwake
namespace Go.Proofs.Ytcmgehfhhnlniaa
open Go.ChangeShapes Go.WideShapes Go.ChangeAt Go.RowKit

set_option maxHeartbeats 400000 in
theorem windowApart_walk (x y w : Int) (hx : -9223372036854775808 ≤ x ∧ x ≤ 9223372036854775807) (hy : -9223372036854775808 ≤ y ∧ y ≤ 9223372036854775807) (_hw : -9223372036854775808 ≤ w ∧ w ≤ 9223372036854775807) (W : World) :
    Calls Try.prog 3 #[.int .i64 x, .int .i64 y, .int .i64 w] W fun e w' => e = .returned (.bool true) ∧ Below W.heap.size W w' := by
  have HX := Lib.hid hx; clear hx
  have HY := Lib.hid hy; clear hy
  go_enter Try.func3, Try.ntmps3
  go_wp2_with fail
  refine (awake_any W).mono ?_
  rintro e w1 ⟨rfl, hb1⟩
  go_wp2_with fail
  refine (kept_any x 1099511627776 _ HX.out (by omega) (by omega)).mono ?_
  rintro e w2 ⟨⟨a, rfl, a0, a1⟩, rfl⟩
  go_wp2_with fail
  refine (kept_any y 1048576 _ HY.out (by omega) (by omega)).mono ?_
  rintro e w2 ⟨⟨b', rfl, b0', b1'⟩, rfl⟩
  obtain ⟨b, hb⟩ : ∃ b, b = 1 + b' := ⟨_, rfl⟩
  obtain ⟨k, B, E, hof, hB, hE, hBV, hEV, l1, l2, l3, huniq⟩ := apart a b a0 a1 (by omega) (by omega)
  have bB := beV_bd k b
  have bE := enV_bd k b
  have OC := Lib.hid (of_any a b)
  have BC := Lib.hid (begin_any k b)
  have EC := Lib.hid (end_any k b)
  have BW := Lib.hid (begin_any w b)
  have EW := Lib.hid (end_any w b)
  rw [hof] at OC
  rw [hB, hBV] at BC
  rw [hE, hEV] at EC
  rw [hBV] at bB
  rw [hEV] at bE
  obtain ⟨B0, B1⟩ := bB
  obtain ⟨E0, E1⟩ := bE
  have hd1 : decide (a < B) = false := by simp; omega
  have hd2 : decide (E ≤ a) = false := by simp; omega
  have hd3 : (E - B != b) = false := by simp [l3]
  have HU := Lib.hid (huniq w)
  have hbb : 1 + b' = b := hb.symm
  clear hb huniq hof hB hE hBV hEV l3
  go_wp2_with fail
  refine (OC.out _).mono ?_
  rintro e w2 ⟨rfl, hb2⟩
  have b2 := hb1.trans (hb2.mono hb1.size)
  go_wp2_with fail
  refine (BC.out _).mono ?_
  rintro e w3 ⟨rfl, hb3⟩
  have b3 := b2.trans (hb3.mono b2.size)
  go_wp2_with fail
  refine (EC.out _).mono ?_
  rintro e w4 ⟨rfl, hb4⟩
  have b4 := b3.trans (hb4.mono b3.size)
  clear hb1 hb2 hb3 hb4 b2 b3
  go_wp2_with fail
  refine (BW.out _).mono ?_
  rintro e w5 ⟨rfl, hb5⟩
  have b5 := b4.trans (hb5.mono b4.size)
  go_wp2_with fail
  refine (EW.out _).mono ?_
  rintro e w6 ⟨rfl, hb6⟩
  have b6 := b5.trans (hb6.mono b5.size)
  clear hb5 hb6 b4 b5 BW EW OC BC EC
  generalize beV w b = c at *
  generalize enV w b = d at *
  cases hx : beB w b
  · clear hx HU
    go_wp2
    go_ret
    exact ⟨rfl, b6⟩
  · cases hy : enB w b
    · clear hx hy HU
      go_wp2
      go_ret
      exact ⟨rfl, b6⟩
    · have hu := HU.out hx hy
      clear hx hy HU
      by_cases hk : w = k
      · obtain ⟨h1, h2⟩ := hu.2 hk
        have e1 : decide (c ≤ a) = true := by simp [h1]
        have e2 : decide (a < d) = true := by simp [h2]
        have e3 : (w == k) = true := by simp [hk]
        clear hu hk
        go_wp2
        go_ret
        exact ⟨rfl, b6⟩
      · have e3 : (w == k) = false := by simp [hk]
        by_cases h1 : c ≤ a
        · have h2 : ¬ a < d := fun h2 => hk (hu.1 ⟨h1, h2⟩)
          have e1 : decide (c ≤ a) = true := by simp [h1]
          have e2 : decide (a < d) = false := by simp; omega
          clear hu hk
          go_wp2
          go_ret
          exact ⟨rfl, b6⟩
        · have e1 : decide (c ≤ a) = false := by simp; omega
          clear hu hk
          go_wp2
          go_ret
          exact ⟨rfl, b6⟩

namespace WindowApart
set_option maxRecDepth 100000 in
theorem lifted (os : Os) (started : os.Started) (H : Type) (enc : TypeId × Value → H) :
    ReturnsInHanded {} Try.checked os 3 .any (Rows.windowApartSpec.pre6 enc Try.prog Try.f3 Rows.windowApartRow.domain false) (Rows.windowApartSpec.post enc Try.prog Try.f3 false true false false) := by
  refine returnsInHanded_of_change (C := Try.checked) own started (by kernel_rfl) Try.func3
    (ChangeSpec.witness6 (enc := enc) (C := Try.checked) false ⟨#[], #[.int .i64 0, .int .i64 0, .int .i64 0], []⟩ 8 (by kernel_rfl) (by kernel_rfl) (by kernel_rfl) (by kernel_rfl)) ?_
  intro W base args ds gs before hval0 hW hcnd _
  have hval : ∀ (j : Nat) t v, Try.f3.params[j]? = some t → args[j]? = some v → Value.okWide Try.prog W .any base t v := hval0
  have hW' := hW
  obtain ⟨p, q, hA0, hV, rfl, hfz, hnd⟩ := hW
  have hA : DataW.TrodAll enc Try.prog W 0 (fun _ => true) true Try.f3.params.toList args.toList ds p := hA0
  rw [Try.params3] at hA hval
  obtain ⟨v0, vs0, d0, ds0, p0, q0, hargs, rfl, rfl, h0, r0⟩ := trodAll_cons hA
  obtain ⟨v1, vs1, d1, ds1, p1, q1, rfl, rfl, rfl, h1, r1⟩ := trodAll_cons r0
  obtain ⟨v2, vs2, d2, ds2, p2, q2, rfl, rfl, rfl, h2, r2⟩ := trodAll_cons r1
  obtain ⟨rfl, rfl, rfl⟩ := trodAll_nil r2
  obtain rfl : args = #[v0, v1, v2] := by cases args; simp_all
  obtain ⟨rfl, rfl⟩ := trodVars_none hV
  obtain ⟨a0, rfl, rfl, rfl, w0⟩ := open_int Try.underlying3 (hval 0 3 v0 rfl rfl) h0
  obtain ⟨a1, rfl, rfl, rfl, w1⟩ := open_int Try.underlying3 (hval 1 3 v1 rfl rfl) h1
  obtain ⟨a2, rfl, rfl, rfl, w2⟩ := open_int Try.underlying3 (hval 2 3 v2 rfl rfl) h2
  clear hA0 hval0 hcnd
  simp only [List.append_nil] at hW'
  refine (windowApart_walk a0 a1 a2 (bounds_i64 w0) (bounds_i64 w1) (bounds_i64 w2) W).mono fun e W' ⟨he, hb⟩ => ?_
  subst he
  exact ⟨_, rfl, post_under (pa := []) (pv := []) hW' (fun _ _ _ => trodAll_cons_mk (shut_bool Try.underlying4 _) trodAll_mk0)
    (trodAll_cons_mk (shut_int Try.underlying3 w0) (trodAll_cons_mk (shut_int Try.underlying3 w1) (trodAll_cons_mk (shut_int Try.underlying3 w2) trodAll_mk0))) (fun _ => rfl) rfl hb⟩
end WindowApart

theorem windowApart_holds : Rows.WindowApartSaid :=
  OpenClaim.holds_of_wide 3 Try.f3 rfl rfl rfl rfl rfl rfl rfl ⟨rfl, rfl, rfl, rfl, rfl⟩ rfl rfl rfl rfl rfl (by kernel_rfl) Try.func3 (by kernel_rfl)
    (of_decide_eq_true (by kernel_rfl)) (by unfold Func.isWrapper; first | (rw [if_pos (by decide +kernel)]; kernel_rfl) | (rw [if_neg (by decide +kernel)]; exact ⟨rfl, rfl⟩))
    (fun os started H enc _ => WindowApart.lifted os started H enc)
#print axioms windowApart_holds
end Go.Proofs.Ytcmgehfhhnlniaa
