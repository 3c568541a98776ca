/- scriniumlaw04.CheckSealTurned, called with any text, any place and any 32 bits, returns true and leaves its arguments as they were. Conditions: the package-level table of package check reads as its own initialiser lays it when the call begins (the row's cell 'laid'); the card ties this to the program's text, over the packages that the seat's roots load; none other. -/
import Derived.Test.YtmbgeinjifhagaaDoorFrame
import Derived.Test.YtmbgeinjifhagaaDoorCards
import Derived.Test.YtmbgeinjifhagaaDoorTurn
namespace Go.Proofs.YtmbgeinjifhagaaDoor
open Go.ChangeShapes Go.WideShapes Go.ChangeAt Go.RowKit
open Go.ChangeMaps (open_string shut_string)

theorem checkSealTurned_walk (s : ByteArray) (hs : s.size ≤ maxLen) (x : Int) (hx : -9223372036854775808 ≤ x ∧ x ≤ 9223372036854775807) (c : Nat) (hc : c < 4294967296) (w : World) (ht : TabOk w) :
    Calls Tryd.prog 7 #[.string s, .int .i64 x, .int .u32 (c : Nat)] w fun e w' => e = .returned (.bool true) ∧ Below w.heap.size w w' := by
  have HX := Lib.hid hx; clear hx
  go_enter Tryd.func7, Tryd.ntmps7
  go_wp2_with fail
  refine (awake_any w ht).mono ?_
  rintro e w1 ⟨rfl, hb1⟩
  have ht1 := Lib.hid (tab_below ht hb1)
  go_wp2_with fail
  refine (short_any s 300 (by omega) hs _).mono ?_
  rintro e w2 ⟨t, rfl, htt, rfl⟩
  have SC := Lib.hid (seal_call t w1 ht1.out (by omega))
  have hr0 := sealS_size t
  have hr : (sealS t).size ≤ 304 := by omega
  clear hr0
  have HW := Lib.hid (sealS_of t)
  generalize sealS t = r at *
  go_wp2_with fail
  refine SC.out.mono ?_
  rintro e w2 ⟨rfl, hb2⟩
  have ht2 := Lib.hid (tab_below ht1.out hb2)
  have b2 : Below w.heap.size w w2 := hb1.trans (hb2.mono hb1.size)
  by_cases h5 : r.size < 5
  · have hd : decide ((r.size : Int) < 5) = true := by simp; omega
    go_wp2
    go_ret
    exact ⟨rfl, b2⟩
  · have hd : decide ((r.size : Int) < 5) = false := by simp; omega
    by_cases hc0 : c = 0
    · have hz : ((c : Int) == 0) = true := by simp [hc0]
      clear hc0
      go_wp2
      go_ret
      exact ⟨rfl, b2⟩
    · have hz : ((c : Int) == 0) = false := by simp [hc0]
      go_wp2_with fail
      refine (turned_any r x c HX.out hc (by omega) (by omega) _).mono ?_
      rintro e w3 ⟨n, hn, rfl, hb3⟩
      have hq := turned_size r n c
      have HNE := Lib.hid (Crc.turned_of n c r.data.toList (by simpa using hn) hc hc0)
      have HQ : Hid ((⟨(Crc.turned n c r.data.toList).toArray⟩ : ByteArray).data.toList = Crc.turned n c r.data.toList) := by unfold Hid; simp
      rw [← HQ.out, HW.out] at HNE
      clear HQ hc0
      generalize (⟨(Crc.turned n c r.data.toList).toArray⟩ : ByteArray) = q at *
      have hqm : q.size ≤ maxLen := by rw [hq]; unfold maxLen; omega
      have HB : Hid (opB q = false) := by
        unfold Hid opB isWhole
        rw [decide_eq_false HNE.out]; simp
      have OC := Lib.hid (fun w ht => open_any q w ht hqm)
      rw [HB.out] at OC
      generalize opS q = a at *
      clear hq HNE HB
      have ht3 := Lib.hid (tab_below ht2.out hb3)
      go_wp2_with fail
      refine (OC.out _ ht3.out).mono ?_
      rintro e w4 ⟨rfl, hb4⟩
      go_wp2
      go_ret
      have b3 : Below w.heap.size w w3 := b2.trans (hb3.mono b2.size)
      exact ⟨rfl, b3.trans (hb4.mono b3.size)⟩

namespace CheckSealTurned
theorem contract (H : Type) (enc : TypeId × Value → H) (W : World) (base : Nat) (args : Array Value) (ds gs : List (DataW H)) (before : List MemPlace)
    (hval : ∀ (j : Nat) t v, Tryd.f7.params[j]? = some t → args[j]? = some v → Value.okWide Tryd.prog W .any base t v)
    (hW : DataW.Whole enc Tryd.prog Tryd.f7.params.toList Rows.checkSealTurnedSpec.vars false W args.toList ds gs before) (hL : laidMetH Tryd.prog Rows.checkSealTurnedRow.laid W) :
    Calls Tryd.prog 7 args W fun e W' => ∃ v, e = .returned v ∧ Rows.checkSealTurnedSpec.post enc Tryd.prog Tryd.f7 false true false false W args v W' := by
  have hW' := hW
  obtain ⟨p, q, hA0, hV, rfl, hfz, hnd⟩ := hW
  have hA : DataW.TrodAll enc Tryd.prog W 0 (fun _ => true) true Tryd.f7.params.toList args.toList ds p := hA0
  rw [Tryd.params7] at hA hval
  obtain ⟨v0, vs0, d0, ds0, p0, q0, hargs, rfl, rfl, h0, r0⟩ := trodAll_cons hA
  obtain ⟨v1, vs1, d1, ds1, p1, q1, rfl, rfl, rfl, h1, r1⟩ := trodAll_cons r0
  obtain ⟨v2, vs2, d2, ds2, p2, q2, rfl, rfl, rfl, h2, r2⟩ := trodAll_cons r1
  obtain ⟨rfl, rfl, rfl⟩ := trodAll_nil r2
  obtain rfl : args = #[v0, v1, v2] := by cases args; simp_all
  obtain ⟨rfl, rfl⟩ := trodVars_none hV
  obtain ⟨s0, rfl, rfl, rfl, hmax0⟩ := open_string Tryd.underlying9 (hval 0 9 v0 rfl rfl) h0
  obtain ⟨x1, rfl, rfl, rfl, wx1⟩ := open_int Tryd.underlying3 (hval 1 3 v1 rfl rfl) h1
  obtain ⟨x2, rfl, rfl, rfl, wx2⟩ := open_int Tryd.underlying22 (hval 2 22 v2 rfl rfl) h2
  clear hA0
  simp only [List.append_nil] at hW'
  have bx2 := bounds_u32 wx2
  obtain ⟨c2, rfl⟩ := Int.eq_ofNat_of_zero_le bx2.1
  refine (checkSealTurned_walk s0 hmax0 x1 (bounds_i64 wx1) c2 (by omega) W (table hL)).mono fun e W' ⟨he, hb⟩ => ?_
  subst he
  exact ⟨_, rfl, post_under (pa := []) (pv := []) hW' (fun _ _ _ => trodAll_cons_mk (shut_bool Tryd.underlying4 _) trodAll_mk0)
    (fun _ => trodAll_cons_mk (shut_string Tryd.underlying9 hmax0) (trodAll_cons_mk (shut_int Tryd.underlying3 wx1) (trodAll_cons_mk (shut_int Tryd.underlying22 wx2) trodAll_mk0))) (fun _ => rfl) rfl hb⟩

theorem laid_met (os : Os) : laidMet Tryd.prog Rows.checkSealTurnedRow.laid ((laidWorld os).forCall (fun _ _ => 0) ⟨#[], #[.string .empty, .int .i64 0, .int .u32 0], []⟩).memory :=
  laidMet_of_run' 8 (by kernel_rfl) (by kernel_rfl)
theorem reads (os : Os) {H : Type} (enc : TypeId × Value → H) : ∃ places, DataW.whole enc Tryd.prog ((laidWorld os).forCall (fun _ _ => 0) ⟨#[], #[.string .empty, .int .i64 0, .int .u32 0], []⟩).memory Tryd.f7.params.toList Rows.checkSealTurnedSpec.vars false #[Value.string .empty, Value.int .i64 0, Value.int .u32 0].toList 8 = some ([.lit (.string []), .lit (.int .i64 0), .lit (.int .u32 0)], [], places) :=
  ⟨[], by kernel_rfl⟩

set_option maxRecDepth 100000 in
theorem lifted (os : Os) (started : os.Started) (H : Type) (enc : TypeId × Value → H) (F : Stop.Interp) :
    ReturnsInHanded {} Tryd.checked os 7 .any ((OpenSpec.ofChange Rows.checkSealTurnedSpec).preRow enc Tryd.prog Tryd.f7 Rows.checkSealTurnedRow.domain false Rows.checkSealTurnedRow.laid) (((OpenSpec.ofChange Rows.checkSealTurnedSpec).at F).post enc Tryd.prog Tryd.f7 false true false false) := by
  obtain ⟨places, hx⟩ := reads os enc
  refine returnsInHanded_of_row (C := Tryd.checked) (s := OpenSpec.ofChange Rows.checkSealTurnedSpec) own started (by kernel_rfl) Tryd.func7
    (witness_row_at (enc := enc) (C := Tryd.checked) false (laidWorld os) #[.string .empty, .int .i64 0, .int .u32 0] rfl (by kernel_rfl) (by kernel_rfl) (by kernel_rfl)
      (OpenSpec.preRow_of_cond 8 hx (by kernel_rfl) (fun k hk => by cases hk) (by kernel_rfl) (laid_met os))) ?_
  intro W base args ds gs before hval hW _ _ _ hL _ _
  exact contract H enc W base args ds gs before hval hW hL

theorem said : Rows.CheckSealTurnedSaid :=
  OpenClaim.holds_of_cond 7 Tryd.f7 rfl rfl rfl rfl rfl rfl rfl ⟨rfl, rfl, rfl, rfl, rfl⟩ rfl rfl rfl rfl rfl (by kernel_rfl) Tryd.func7 (by kernel_rfl)
    (of_decide_eq_true (by kernel_rfl)) (by unfold Func.isWrapper; first | (rw [if_pos (by decide +kernel)]; kernel_rfl) | (rw [if_neg (by decide +kernel)]; exact ⟨rfl, rfl⟩))
    (fun os started H enc _ F => by rw [OpenClaim.pre_eq_preRow]; exact lifted os started H enc F)

theorem plain (f : FuncId) (fn : Func) (hf : Tryd.pinned.checked.prog.funcNamed "scrinium/scriniumlaw04.CheckSealTurned" = some f) (hfn : Tryd.pinned.checked.prog.funcs[f]? = some fn) :
    false = Tryd.pinned.checked.prog.looks [] ∧ ∀ (j : Nat) t, fn.params[j]? = some t → Tryd.pinned.checked.prog.wantsStandIn t = false := by
  obtain rfl : f = 7 := Option.some.inj ((show Tryd.prog.funcNamed "scrinium/scriniumlaw04.CheckSealTurned" = some 7 by kernel_rfl).symm.trans hf) |>.symm
  obtain rfl : fn = Tryd.f7 := (Option.some.inj (Tryd.func7.symm.trans hfn)).symm
  refine ⟨by kernel_rfl, fun j t ht => ?_⟩
  rw [Tryd.params7] at ht
  have hm := Array.mem_of_getElem? ht
  simp at hm
  rcases hm with rfl | rfl | rfl
  · exact (show Tryd.prog.wantsStandIn 9 = false by kernel_rfl)
  · exact (show Tryd.prog.wantsStandIn 3 = false by kernel_rfl)
  · exact (show Tryd.prog.wantsStandIn 22 = false by kernel_rfl)
end CheckSealTurned

/-- The tied card. -/
theorem checkSealTurned_card : Rows.CheckSealTurnedCardSaid :=
  Claim7.holds_tied_plain_at .later [] _ _ _ _ CheckSealTurned.said (fun _ h => by cases h) (by kernel_rfl) (fun _ h => by cases h) checkSealTurned_row_tie rfl ⟨rfl, rfl⟩ (by kernel_rfl) rfl CheckSealTurned.plain (by kernel_rfl)
#print axioms checkSealTurned_card
end Go.Proofs.YtmbgeinjifhagaaDoor
