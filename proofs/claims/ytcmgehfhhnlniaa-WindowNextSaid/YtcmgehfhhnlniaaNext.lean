/- scriniumlaw14.WindowNext, called with any three numbers, returns true and leaves its arguments as they were. Conditions: none. -/
import Derived.Test.YtcmgehfhhnlniaaFrame
import Derived.Test.YtcmgehfhhnlniaaPlain
import Derived.Test.YtcmgehfhhnlniaaAwake
import Derived.Test.YtcmgehfhhnlniaaMore
namespace Go.Proofs.Ytcmgehfhhnlniaa
open Go.ChangeShapes Go.WideShapes Go.ChangeAt Go.RowKit

set_option maxHeartbeats 800000 in
/-- Every window but the greatest number. -/
theorem next_most (w m t : Int) (hw : -9223372036854775808 ≤ w ∧ w ≤ 9223372036854775806) (W : World) :
    Calls Try.prog 5 #[.int .i64 w, .int .i64 m, .int .i64 t] W fun e w' => e = .returned (.bool true) ∧ Below W.heap.size W w' := by
  obtain ⟨hw0, hw1⟩ := hw
  have EC := Lib.hid (end_any w m)
  have BC := Lib.hid (begin_any (w + 1) m)
  have DC := Lib.hid (due_any w m t)
  have ZC := Lib.hid (begin_any 0 m)
  rw [begin_zero] at ZC
  have hne : (w == 9223372036854775807) = false := by simp; omega
  go_enter Try.func5, Try.ntmps5
  go_wp2_with fail
  refine (awake_any _).mono ?_
  rintro e w1 ⟨rfl, b1⟩
  cases hi : enB w m
  · rw [hi] at EC
    rw [duB_no hi] at DC
    generalize enV w m = ev at *
    generalize duV w m t = dv at *
    generalize beV (w + 1) m = bv at *
    generalize beB (w + 1) m = bb at *
    generalize beB 0 m = zb at *
    clear hi
    go_wp2_with fail
    refine (EC.out _).mono ?_
    rintro e w2 ⟨rfl, hb2⟩
    have b2 := b1.trans (hb2.mono b1.size)
    go_wp2_with fail
    refine (BC.out _).mono ?_
    rintro e w3 ⟨rfl, hb3⟩
    have b3 := b2.trans (hb3.mono b2.size)
    go_wp2_with fail
    refine (DC.out _).mono ?_
    rintro e w4 ⟨rfl, hb4⟩
    have b4 := b3.trans (hb4.mono b3.size)
    go_wp2_with fail
    refine (ZC.out _).mono ?_
    rintro e w5 ⟨rfl, hb5⟩
    have b5 := b4.trans (hb5.mono b4.size)
    clear b1 b2 b3 b4 hb2 hb3 hb4 hb5 EC BC DC ZC
    cases zb
    · go_wp2
      go_ret
      exact ⟨rfl, b5⟩
    · go_wp2
      go_ret
      exact ⟨rfl, b5⟩
  · have hz := zero_there hi
    have HN := Lib.hid (@next_begin w m hi)
    have HD := Lib.hid (@duB_iff w m t)
    have HV := Lib.hid (@duV_pos w m t)
    have hev := enV_bd w m
    rw [hi] at EC
    rw [hz] at ZC
    generalize enV w m = ev at *
    generalize duV w m t = dv at *
    generalize beV (w + 1) m = bv at *
    clear hz
    go_wp2_with fail
    refine (EC.out _).mono ?_
    rintro e w2 ⟨rfl, hb2⟩
    have b2 := b1.trans (hb2.mono b1.size)
    go_wp2_with fail
    refine (BC.out _).mono ?_
    rintro e w3 ⟨rfl, hb3⟩
    have b3 := b2.trans (hb3.mono b2.size)
    go_wp2_with fail
    refine (DC.out _).mono ?_
    rintro e w4 ⟨rfl, hb4⟩
    have b4 := b3.trans (hb4.mono b3.size)
    go_wp2_with fail
    refine (ZC.out _).mono ?_
    rintro e w5 ⟨rfl, hb5⟩
    have b5 := b4.trans (hb5.mono b4.size)
    clear b1 b2 b3 b4 hb2 hb3 hb4 hb5 EC BC DC ZC hi
    obtain ⟨ev0, ev1⟩ := hev
    by_cases hq : w < 1125899906842624
    · obtain ⟨hn1, hn2⟩ := HN.out hq
      have d1 : decide (1125899906842624 ≤ w) = false := by simp; omega
      have d2 : (ev == bv) = true := by rw [hn2]; simp
      rw [hn1]
      cases hk : duB w m t
      · clear HD HV HN hn1 hn2 hk
        go_wp2
        go_ret
        exact ⟨rfl, b5⟩
      · have ht := (HD.out.1 hk).2.1
        have hv := HV.out hk
        have d3 : (dv == ev + t) = true := by rw [hv]; simp
        obtain ⟨ht0, ht1⟩ := ht
        clear HD HV HN hn1 hn2 hk hv
        go_wp2
        go_ret
        exact ⟨rfl, b5⟩
    · have d1 : decide (1125899906842624 ≤ w) = true := by simp; omega
      cases hk : duB w m t
      · clear HD HV HN hk
        go_wp2
        go_ret
        exact ⟨rfl, b5⟩
      · have ht := (HD.out.1 hk).2.1
        have hv := HV.out hk
        have d3 : (dv == ev + t) = true := by rw [hv]; simp
        obtain ⟨ht0, ht1⟩ := ht
        clear HD HV HN hk hv
        go_wp2
        go_ret
        exact ⟨rfl, b5⟩

/-- The greatest number: the next one goes round. -/
theorem next_last (w m t : Int) (hw : w = 9223372036854775807) (W : World) :
    Calls Try.prog 5 #[.int .i64 w, .int .i64 m, .int .i64 t] W fun e w' => e = .returned (.bool true) ∧ Below W.heap.size W w' := by
  obtain ⟨v, hv⟩ : ∃ v, wrap64 (w + 1) = v := ⟨_, rfl⟩
  have EC := Lib.hid (end_any w m)
  have BC := Lib.hid (begin_any v m)
  have DC := Lib.hid (due_any w m t)
  have ZC := Lib.hid (begin_any 0 m)
  have hi : enB w m = false := enB_high (by omega)
  have hne : (w == 9223372036854775807) = true := by simp; omega
  rw [hi] at EC
  rw [duB_no hi] at DC
  clear hi hw
  generalize enV w m = ev at *
  generalize duV w m t = dv at *
  generalize beV v m = bv at *
  generalize beB v m = bb at *
  generalize beB 0 m = zb at *
  generalize beV 0 m = zv at *
  go_enter Try.func5, Try.ntmps5
  go_wp2_with fail
  refine (awake_any _).mono ?_
  rintro e w1 ⟨rfl, b1⟩
  go_wp2_with fail
  refine (EC.out _).mono ?_
  rintro e w2 ⟨rfl, hb2⟩
  have b2 := b1.trans (hb2.mono b1.size)
  go_wp2_with fail
  refine (BC.out _).mono ?_
  rintro e w3 ⟨rfl, hb3⟩
  have b3 := b2.trans (hb3.mono b2.size)
  go_wp2_with fail
  refine (DC.out _).mono ?_
  rintro e w4 ⟨rfl, hb4⟩
  have b4 := b3.trans (hb4.mono b3.size)
  go_wp2_with fail
  refine (ZC.out _).mono ?_
  rintro e w5 ⟨rfl, hb5⟩
  have b5 := b4.trans (hb5.mono b4.size)
  clear b1 b2 b3 b4 hb2 hb3 hb4 hb5 EC BC DC ZC
  go_wp2
  go_ret
  exact ⟨rfl, b5⟩

theorem windowNext_walk (x y z : Int) (hx : -9223372036854775808 ≤ x ∧ x ≤ 9223372036854775807) (_hy : -9223372036854775808 ≤ y ∧ y ≤ 9223372036854775807) (_hz : -9223372036854775808 ≤ z ∧ z ≤ 9223372036854775807) (W : World) :
    Calls Try.prog 5 #[.int .i64 x, .int .i64 y, .int .i64 z] W fun e w' => e = .returned (.bool true) ∧ Below W.heap.size W w' := by
  by_cases h : x = 9223372036854775807
  · exact next_last x y z h W
  · exact next_most x y z ⟨hx.1, by omega⟩ W

namespace WindowNext
set_option maxRecDepth 100000 in
theorem lifted (os : Os) (started : os.Started) (H : Type) (enc : TypeId × Value → H) :
    ReturnsInHanded {} Try.checked os 5 .any (Rows.windowNextSpec.pre6 enc Try.prog Try.f5 Rows.windowNextRow.domain false) (Rows.windowNextSpec.post enc Try.prog Try.f5 false true false false) := by
  refine returnsInHanded_of_change (C := Try.checked) own started (by kernel_rfl) Try.func5
    (ChangeSpec.witness6 (enc := enc) (C := Try.checked) false ⟨#[], #[.int .i64 0, .int .i64 0, .int .i64 0], []⟩ 8 (by kernel_rfl) (by kernel_rfl) (by kernel_rfl) (by kernel_rfl)) ?_
  intro W base args ds gs before hval0 hW hcnd _
  have hval : ∀ (j : Nat) t v, Try.f5.params[j]? = some t → args[j]? = some v → Value.okWide Try.prog W .any base t v := hval0
  have hW' := hW
  obtain ⟨p, q, hA0, hV, rfl, hfz, hnd⟩ := hW
  have hA : DataW.TrodAll enc Try.prog W 0 (fun _ => true) true Try.f5.params.toList args.toList ds p := hA0
  rw [Try.params5] at hA hval
  obtain ⟨v0, vs0, d0, ds0, p0, q0, hargs, rfl, rfl, h0, r0⟩ := trodAll_cons hA
  obtain ⟨v1, vs1, d1, ds1, p1, q1, rfl, rfl, rfl, h1, r1⟩ := trodAll_cons r0
  obtain ⟨v2, vs2, d2, ds2, p2, q2, rfl, rfl, rfl, h2, r2⟩ := trodAll_cons r1
  obtain ⟨rfl, rfl, rfl⟩ := trodAll_nil r2
  obtain rfl : args = #[v0, v1, v2] := by cases args; simp_all
  obtain ⟨rfl, rfl⟩ := trodVars_none hV
  obtain ⟨a0, rfl, rfl, rfl, w0⟩ := open_int Try.underlying3 (hval 0 3 v0 rfl rfl) h0
  obtain ⟨a1, rfl, rfl, rfl, w1⟩ := open_int Try.underlying3 (hval 1 3 v1 rfl rfl) h1
  obtain ⟨a2, rfl, rfl, rfl, w2⟩ := open_int Try.underlying3 (hval 2 3 v2 rfl rfl) h2
  clear hA0 hval0 hcnd
  simp only [List.append_nil] at hW'
  refine (windowNext_walk a0 a1 a2 (bounds_i64 w0) (bounds_i64 w1) (bounds_i64 w2) W).mono fun e W' ⟨he, hb⟩ => ?_
  subst he
  exact ⟨_, rfl, post_under (pa := []) (pv := []) hW' (fun _ _ _ => trodAll_cons_mk (shut_bool Try.underlying4 _) trodAll_mk0)
    (trodAll_cons_mk (shut_int Try.underlying3 w0) (trodAll_cons_mk (shut_int Try.underlying3 w1) (trodAll_cons_mk (shut_int Try.underlying3 w2) trodAll_mk0))) (fun _ => rfl) rfl hb⟩
end WindowNext

theorem windowNext_holds : Rows.WindowNextSaid :=
  OpenClaim.holds_of_wide 5 Try.f5 rfl rfl rfl rfl rfl rfl rfl ⟨rfl, rfl, rfl, rfl, rfl⟩ rfl rfl rfl rfl rfl (by kernel_rfl) Try.func5 (by kernel_rfl)
    (of_decide_eq_true (by kernel_rfl)) (by unfold Func.isWrapper; first | (rw [if_pos (by decide +kernel)]; kernel_rfl) | (rw [if_neg (by decide +kernel)]; exact ⟨rfl, rfl⟩))
    (fun os started H enc _ => WindowNext.lifted os started H enc)
#print axioms windowNext_holds
end Go.Proofs.Ytcmgehfhhnlniaa
