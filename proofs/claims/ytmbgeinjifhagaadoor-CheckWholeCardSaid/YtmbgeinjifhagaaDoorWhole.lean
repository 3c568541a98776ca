/- scriniumlaw04.CheckWhole, called with any text, returns true and leaves its argument as it was. Conditions: the package-level table of package check reads as its own initialiser lays it when the call begins (the row's cell 'laid'); the card ties this to the program's text, over the packages that the seat's roots load; none other. -/
import Derived.Test.YtmbgeinjifhagaaDoorFrame
import Derived.Test.YtmbgeinjifhagaaDoorCards
import Derived.Test.YtmbgeinjifhagaaDoorOpn
namespace Go.Proofs.YtmbgeinjifhagaaDoor
open Go.ChangeShapes Go.WideShapes Go.ChangeAt Go.RowKit
open Go.ChangeMaps (open_string shut_string)

theorem sealS_not (s : ByteArray) (h : 4 ≤ s.size) (hw : isWhole s.data.toList = false) : sealS (s.extract 0 (s.size - 4)) ≠ s := not_sealed_of s h hw

theorem checkWhole_walk (s : ByteArray) (hs : s.size ≤ maxLen) (w : World) (ht : TabOk w) :
    Calls Tryd.prog 5 #[.string s] w fun e w' => e = .returned (.bool true) ∧ Below w.heap.size w w' := by
  go_enter Tryd.func5, Tryd.ntmps5
  go_wp2_with fail
  refine (awake_any w ht).mono ?_
  rintro e w1 ⟨rfl, hb1⟩
  have ht1 := Lib.hid (tab_below ht hb1)
  go_wp2_with fail
  refine (short_any s 500 (by omega) hs _).mono ?_
  rintro e w2 ⟨r, rfl, hr, rfl⟩
  have hrm : r.size ≤ maxLen := by unfold maxLen; omega
  by_cases h4 : r.size < 4
  · have hd : decide ((r.size : Int) < 4) = true := by simp; omega
    go_wp2
    go_ret
    exact ⟨rfl, hb1⟩
  · have hd : decide ((r.size : Int) < 4) = false := by simp; omega
    cases hw : isWhole r.data.toList
    · have HB : Hid (opB r = false) := by unfold Hid opB; simp [hw]
      have OC := Lib.hid (fun w ht => open_any r w ht hrm)
      have WC := Lib.hid (fun w ht => whole_is r false w ht hrm hw)
      have SC := Lib.hid (fun w ht => seal_call (r.extract 0 (r.size - 4)) w ht (by simp; omega))
      have HNE := Lib.hid (sealS_not r (by omega) hw)
      rw [HB.out] at OC
      generalize sealS (r.extract 0 (r.size - 4)) = q at *
      generalize opS r = a at *
      have hne := beq_no HNE.out
      clear hw
      go_wp2_with fail
      refine (OC.out _ ht1.out).mono ?_
      rintro e w2 ⟨rfl, hb2⟩
      have ht2 := Lib.hid (tab_below ht1.out hb2)
      go_wp2_with fail
      refine (WC.out _ ht2.out).mono ?_
      rintro e w3 ⟨rfl, hb3⟩
      have ht3 := Lib.hid (tab_below ht2.out hb3)
      go_wp2_with fail
      refine (SC.out _ ht3.out).mono ?_
      rintro e w4 ⟨rfl, hb4⟩
      go_wp2
      go_ret
      have b2 : Below w.heap.size w w2 := hb1.trans (hb2.mono hb1.size)
      have b3 : Below w.heap.size w w3 := b2.trans (hb3.mono b2.size)
      exact ⟨rfl, b3.trans (hb4.mono b3.size)⟩
    · have HB : Hid (opB r = true) := by unfold Hid opB; simp [hw]; omega
      have OC := Lib.hid (fun w ht => open_any r w ht hrm)
      have WC := Lib.hid (fun w ht => whole_is r true w ht hrm hw)
      have SC := Lib.hid (fun w ht => seal_call (r.extract 0 (r.size - 4)) w ht (by simp; omega))
      have HEQ := Lib.hid ((sealS_iff r (by omega)).2 hw)
      rw [HB.out] at OC
      rw [HEQ.out] at SC
      generalize opS r = a at *
      clear hw HEQ
      go_wp2_with fail
      refine (OC.out _ ht1.out).mono ?_
      rintro e w2 ⟨rfl, hb2⟩
      have ht2 := Lib.hid (tab_below ht1.out hb2)
      go_wp2_with fail
      refine (WC.out _ ht2.out).mono ?_
      rintro e w3 ⟨rfl, hb3⟩
      have ht3 := Lib.hid (tab_below ht2.out hb3)
      go_wp2_with fail
      refine (SC.out _ ht3.out).mono ?_
      rintro e w4 ⟨rfl, hb4⟩
      go_wp2
      go_ret
      have b2 : Below w.heap.size w w2 := hb1.trans (hb2.mono hb1.size)
      have b3 : Below w.heap.size w w3 := b2.trans (hb3.mono b2.size)
      exact ⟨rfl, b3.trans (hb4.mono b3.size)⟩

namespace CheckWhole
theorem contract (H : Type) (enc : TypeId × Value → H) (W : World) (base : Nat) (args : Array Value) (ds gs : List (DataW H)) (before : List MemPlace)
    (hval : ∀ (j : Nat) t v, Tryd.f5.params[j]? = some t → args[j]? = some v → Value.okWide Tryd.prog W .any base t v)
    (hW : DataW.Whole enc Tryd.prog Tryd.f5.params.toList Rows.checkWholeSpec.vars false W args.toList ds gs before) (hL : laidMetH Tryd.prog Rows.checkWholeRow.laid W) :
    Calls Tryd.prog 5 args W fun e W' => ∃ v, e = .returned v ∧ Rows.checkWholeSpec.post enc Tryd.prog Tryd.f5 false true false false W args v W' := by
  have hW' := hW
  obtain ⟨p, q, hA0, hV, rfl, hfz, hnd⟩ := hW
  have hA : DataW.TrodAll enc Tryd.prog W 0 (fun _ => true) true Tryd.f5.params.toList args.toList ds p := hA0
  rw [Tryd.params5] at hA hval
  obtain ⟨v0, vs0, d0, ds0, p0, q0, hargs, rfl, rfl, h0, r0⟩ := trodAll_cons hA
  obtain ⟨rfl, rfl, rfl⟩ := trodAll_nil r0
  obtain rfl : args = #[v0] := by cases args; simp_all
  obtain ⟨rfl, rfl⟩ := trodVars_none hV
  obtain ⟨s0, rfl, rfl, rfl, hmax0⟩ := open_string Tryd.underlying9 (hval 0 9 v0 rfl rfl) h0
  clear hA0
  simp only [List.append_nil] at hW'
  refine (checkWhole_walk s0 hmax0 W (table hL)).mono fun e W' ⟨he, hb⟩ => ?_
  subst he
  exact ⟨_, rfl, post_under (pa := []) (pv := []) hW' (fun _ _ _ => trodAll_cons_mk (shut_bool Tryd.underlying4 _) trodAll_mk0)
    (fun _ => trodAll_cons_mk (shut_string Tryd.underlying9 hmax0) trodAll_mk0) (fun _ => rfl) rfl hb⟩

theorem laid_met (os : Os) : laidMet Tryd.prog Rows.checkWholeRow.laid ((laidWorld os).forCall (fun _ _ => 0) ⟨#[], #[.string .empty], []⟩).memory :=
  laidMet_of_run' 8 (by kernel_rfl) (by kernel_rfl)
theorem reads (os : Os) {H : Type} (enc : TypeId × Value → H) : ∃ places, DataW.whole enc Tryd.prog ((laidWorld os).forCall (fun _ _ => 0) ⟨#[], #[.string .empty], []⟩).memory Tryd.f5.params.toList Rows.checkWholeSpec.vars false #[Value.string .empty].toList 8 = some ([.lit (.string [])], [], places) :=
  ⟨[], by kernel_rfl⟩

set_option maxRecDepth 100000 in
theorem lifted (os : Os) (started : os.Started) (H : Type) (enc : TypeId × Value → H) (F : Stop.Interp) :
    ReturnsInHanded {} Tryd.checked os 5 .any ((OpenSpec.ofChange Rows.checkWholeSpec).preRow enc Tryd.prog Tryd.f5 Rows.checkWholeRow.domain false Rows.checkWholeRow.laid) (((OpenSpec.ofChange Rows.checkWholeSpec).at F).post enc Tryd.prog Tryd.f5 false true false false) := by
  obtain ⟨places, hx⟩ := reads os enc
  refine returnsInHanded_of_row (C := Tryd.checked) (s := OpenSpec.ofChange Rows.checkWholeSpec) own started (by kernel_rfl) Tryd.func5
    (witness_row_at (enc := enc) (C := Tryd.checked) false (laidWorld os) #[.string .empty] rfl (by kernel_rfl) (by kernel_rfl) (by kernel_rfl)
      (OpenSpec.preRow_of_cond 8 hx (by kernel_rfl) (fun k hk => by cases hk) (by kernel_rfl) (laid_met os))) ?_
  intro W base args ds gs before hval hW _ _ _ hL _ _
  exact contract H enc W base args ds gs before hval hW hL

theorem said : Rows.CheckWholeSaid :=
  OpenClaim.holds_of_cond 5 Tryd.f5 rfl rfl rfl rfl rfl rfl rfl ⟨rfl, rfl, rfl, rfl, rfl⟩ rfl rfl rfl rfl rfl (by kernel_rfl) Tryd.func5 (by kernel_rfl)
    (of_decide_eq_true (by kernel_rfl)) (by unfold Func.isWrapper; first | (rw [if_pos (by decide +kernel)]; kernel_rfl) | (rw [if_neg (by decide +kernel)]; exact ⟨rfl, rfl⟩))
    (fun os started H enc _ F => by rw [OpenClaim.pre_eq_preRow]; exact lifted os started H enc F)

theorem plain (f : FuncId) (fn : Func) (hf : Tryd.pinned.checked.prog.funcNamed "scrinium/scriniumlaw04.CheckWhole" = some f) (hfn : Tryd.pinned.checked.prog.funcs[f]? = some fn) :
    false = Tryd.pinned.checked.prog.looks [] ∧ ∀ (j : Nat) t, fn.params[j]? = some t → Tryd.pinned.checked.prog.wantsStandIn t = false := by
  obtain rfl : f = 5 := Option.some.inj ((show Tryd.prog.funcNamed "scrinium/scriniumlaw04.CheckWhole" = some 5 by kernel_rfl).symm.trans hf) |>.symm
  obtain rfl : fn = Tryd.f5 := (Option.some.inj (Tryd.func5.symm.trans hfn)).symm
  refine ⟨by kernel_rfl, fun j t ht => ?_⟩
  rw [Tryd.params5] at ht
  have hm := Array.mem_of_getElem? ht
  simp at hm
  subst hm
  exact (show Tryd.prog.wantsStandIn 9 = false by kernel_rfl)
end CheckWhole

/-- The tied card. -/
theorem checkWhole_card : Rows.CheckWholeCardSaid :=
  Claim7.holds_tied_plain_at .later [] _ _ _ _ CheckWhole.said (fun _ h => by cases h) (by kernel_rfl) (fun _ h => by cases h) checkWhole_row_tie rfl ⟨rfl, rfl⟩ (by kernel_rfl) rfl CheckWhole.plain (by kernel_rfl)
#print axioms checkWhole_card
end Go.Proofs.YtmbgeinjifhagaaDoor
