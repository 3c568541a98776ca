/- The walks over Due, Closed, Expired (functions 13, 15, 14). -/
import Derived.Test.YtcmgehfhhnlniaaWin
namespace Go.Proofs.Ytcmgehfhhnlniaa
open Go.RowKit

theorem due_any (n m t : Int) (w : World) :
    Calls Try.prog 13 #[.int .i64 n, .int .i64 m, .int .i64 t] w fun e w' => e = .returned (.tuple #[.int .i64 (duV n m t), .bool (duB n m t)]) ∧ Below w.heap.size w w' := by
  have EC := Lib.hid (end_any n m w)
  have hbd := enV_bd n m
  have HB : Hid (duB n m t = (enB n m && isT t && isT (enV n m + t))) := rfl
  have HV : Hid (duV n m t = if duB n m t = true then enV n m + t else 0) := rfl
  generalize enV n m = v at *
  generalize enB n m = b at *
  obtain ⟨v0, v1⟩ := hbd
  cases b
  · have e1 : duB n m t = false := by rw [HB.out]; rfl
    have e2 : duV n m t = 0 := by rw [HV.out, e1]; rfl
    rw [e1, e2]
    clear e1 e2 HB HV
    go_enter Try.func13, Try.ntmps13
    go_wp2_with fail
    refine EC.out.mono ?_
    rintro e w1 ⟨rfl, hb1⟩
    go_wp2
    go_ret2
    exact ⟨rfl, hb1⟩
  · cases ht : isT t
    · have e1 : duB n m t = false := by rw [HB.out, ht]; rfl
      have e2 : duV n m t = 0 := by rw [HV.out, e1]; rfl
      rw [e1, e2]
      clear e1 e2 HB HV
      go_enter Try.func13, Try.ntmps13
      go_wp2_with fail
      refine EC.out.mono ?_
      rintro e w1 ⟨rfl, hb1⟩
      go_wp2_with fail
      refine (may_is w1.heap.size t false _ ht (by simp [go_sem])).mono ?_
      rintro e w2 ⟨rfl, rfl⟩
      go_wp2
      go_ret2
      exact ⟨rfl, hb1.alloc hb1.size _⟩
    · obtain ⟨t0, t1⟩ := isT_iff.1 ht
      cases hs : isT (v + t)
      · have e1 : duB n m t = false := by rw [HB.out, ht, hs]; rfl
        have e2 : duV n m t = 0 := by rw [HV.out, e1]; rfl
        rw [e1, e2]
        clear e1 e2 HB HV
        go_enter Try.func13, Try.ntmps13
        go_wp2_with fail
        refine EC.out.mono ?_
        rintro e w1 ⟨rfl, hb1⟩
        go_wp2_with fail
        refine (may_is w1.heap.size t true _ ht (by simp [go_sem])).mono ?_
        rintro e w2 ⟨rfl, rfl⟩
        go_wp2_with fail
        refine (may_is _ (v + t) false _ hs (by simp [go_sem])).mono ?_
        rintro e w2 ⟨rfl, rfl⟩
        go_wp2
        go_ret2
        exact ⟨rfl, (hb1.alloc hb1.size _).alloc (by have := hb1.size; simp; omega) _⟩
      · have e1 : duB n m t = true := by rw [HB.out, ht, hs]; rfl
        have e2 : duV n m t = v + t := by rw [HV.out, e1]; rfl
        rw [e1, e2]
        clear e1 e2 HB HV
        go_enter Try.func13, Try.ntmps13
        go_wp2_with fail
        refine EC.out.mono ?_
        rintro e w1 ⟨rfl, hb1⟩
        go_wp2_with fail
        refine (may_is w1.heap.size t true _ ht (by simp [go_sem])).mono ?_
        rintro e w2 ⟨rfl, rfl⟩
        go_wp2_with fail
        refine (may_is _ (v + t) true _ hs (by simp [go_sem])).mono ?_
        rintro e w2 ⟨rfl, rfl⟩
        go_wp2
        go_ret2
        exact ⟨rfl, (hb1.alloc hb1.size _).alloc (by have := hb1.size; simp; omega) _⟩

theorem closed_any (n m t : Int) (w : World) :
    Calls Try.prog 15 #[.int .i64 n, .int .i64 m, .int .i64 t] w fun e w' => e = .returned (.bool (clB n m t)) ∧ Below w.heap.size w w' := by
  have EC := Lib.hid (end_any n m w)
  have HB : Hid (clB n m t = (enB n m && isT t && decide (enV n m ≤ t))) := rfl
  generalize enV n m = v at *
  generalize enB n m = b at *
  cases b
  · have e1 : clB n m t = false := by rw [HB.out]; rfl
    rw [e1]
    clear e1 HB
    go_enter Try.func15, Try.ntmps15
    go_wp2_with fail
    refine EC.out.mono ?_
    rintro e w1 ⟨rfl, hb1⟩
    go_wp2
    go_ret
    exact ⟨rfl, hb1⟩
  · cases ht : isT t
    · have e1 : clB n m t = false := by rw [HB.out, ht]; rfl
      rw [e1]
      clear e1 HB
      go_enter Try.func15, Try.ntmps15
      go_wp2_with fail
      refine EC.out.mono ?_
      rintro e w1 ⟨rfl, hb1⟩
      go_wp2_with fail
      refine (may_is w1.heap.size t false _ ht (by simp [go_sem])).mono ?_
      rintro e w2 ⟨rfl, rfl⟩
      go_wp2
      go_ret
      exact ⟨rfl, hb1.alloc hb1.size _⟩
    · have e1 : clB n m t = decide (v ≤ t) := by rw [HB.out, ht]; rfl
      rw [e1]
      clear e1 HB
      cases hd : decide (v ≤ t)
      · go_enter Try.func15, Try.ntmps15
        go_wp2_with fail
        refine EC.out.mono ?_
        rintro e w1 ⟨rfl, hb1⟩
        go_wp2_with fail
        refine (may_is w1.heap.size t true _ ht (by simp [go_sem])).mono ?_
        rintro e w2 ⟨rfl, rfl⟩
        go_wp2
        go_ret
        exact ⟨rfl, hb1.alloc hb1.size _⟩
      · go_enter Try.func15, Try.ntmps15
        go_wp2_with fail
        refine EC.out.mono ?_
        rintro e w1 ⟨rfl, hb1⟩
        go_wp2_with fail
        refine (may_is w1.heap.size t true _ ht (by simp [go_sem])).mono ?_
        rintro e w2 ⟨rfl, rfl⟩
        go_wp2
        go_ret
        exact ⟨rfl, hb1.alloc hb1.size _⟩

theorem expired_any (n m d t : Int) (w : World) :
    Calls Try.prog 14 #[.int .i64 n, .int .i64 m, .int .i64 d, .int .i64 t] w fun e w' => e = .returned (.bool (exB n m d t)) ∧ Below w.heap.size w w' := by
  have EC := Lib.hid (due_any n m d w)
  have HB : Hid (exB n m d t = (duB n m d && isT t && decide (duV n m d ≤ t))) := rfl
  generalize duV n m d = v at *
  generalize duB n m d = b at *
  cases b
  · have e1 : exB n m d t = false := by rw [HB.out]; rfl
    rw [e1]
    clear e1 HB
    go_enter Try.func14, Try.ntmps14
    go_wp2_with fail
    refine EC.out.mono ?_
    rintro e w1 ⟨rfl, hb1⟩
    go_wp2
    go_ret
    exact ⟨rfl, hb1⟩
  · cases ht : isT t
    · have e1 : exB n m d t = false := by rw [HB.out, ht]; rfl
      rw [e1]
      clear e1 HB
      go_enter Try.func14, Try.ntmps14
      go_wp2_with fail
      refine EC.out.mono ?_
      rintro e w1 ⟨rfl, hb1⟩
      go_wp2_with fail
      refine (may_is w1.heap.size t false _ ht (by simp [go_sem])).mono ?_
      rintro e w2 ⟨rfl, rfl⟩
      go_wp2
      go_ret
      exact ⟨rfl, hb1.alloc hb1.size _⟩
    · have e1 : exB n m d t = decide (v ≤ t) := by rw [HB.out, ht]; rfl
      rw [e1]
      clear e1 HB
      cases hd : decide (v ≤ t)
      · go_enter Try.func14, Try.ntmps14
        go_wp2_with fail
        refine EC.out.mono ?_
        rintro e w1 ⟨rfl, hb1⟩
        go_wp2_with fail
        refine (may_is w1.heap.size t true _ ht (by simp [go_sem])).mono ?_
        rintro e w2 ⟨rfl, rfl⟩
        go_wp2
        go_ret
        exact ⟨rfl, hb1.alloc hb1.size _⟩
      · go_enter Try.func14, Try.ntmps14
        go_wp2_with fail
        refine EC.out.mono ?_
        rintro e w1 ⟨rfl, hb1⟩
        go_wp2_with fail
        refine (may_is w1.heap.size t true _ ht (by simp [go_sem])).mono ?_
        rintro e w2 ⟨rfl, rfl⟩
        go_wp2
        go_ret
        exact ⟨rfl, hb1.alloc hb1.size _⟩
end Go.Proofs.Ytcmgehfhhnlniaa
