/- scriniumlaw04.CheckSeals, called with any text, returns true and leaves its argument as it was. Conditions: the package-level table of package check reads as its own initialiser lays it when the call begins (the row's cell 'laid'); the card ties this to the program's text, over the packages that the seat's roots load; none other. -/
import Derived.Test.YtmbgeinjifhagaaDoorFrame
import Derived.Test.YtmbgeinjifhagaaDoorCards
import Derived.Test.YtmbgeinjifhagaaDoorOpn
namespace Go.Proofs.YtmbgeinjifhagaaDoor
open Go.ChangeShapes Go.WideShapes Go.ChangeAt Go.RowKit
open Go.ChangeMaps (open_string shut_string)

theorem checkSeals_walk (s : ByteArray) (hs : s.size ≤ maxLen) (w : World) (ht : TabOk w) :
    Calls Tryd.prog 4 #[.string s] w fun e w' => e = .returned (.bool true) ∧ Below w.heap.size w w' := by
  go_enter Tryd.func4, Tryd.ntmps4
  go_wp2_with fail
  refine (awake_any w ht).mono ?_
  rintro e w1 ⟨rfl, hb1⟩
  have ht1 := Lib.hid (tab_below ht hb1)
  go_wp2_with fail
  refine (short_any s 500 (by omega) hs _).mono ?_
  rintro e w2 ⟨r, rfl, hr, rfl⟩
  have hrm : r.size ≤ maxLen := by unfold maxLen; omega
  have OC := Lib.hid (fun w ht => open_any r w ht hrm)
  have RC := Lib.hid (fun w => refopen_any r w (by omega))
  have SC := Lib.hid (fun w ht => seal_call r w ht (by omega))
  have RS := Lib.hid (fun w => refseal_call r w (by omega))
  have QC := Lib.hid (fun w ht => open_any (sealS r) w ht (by rw [sealS_size]; unfold maxLen; omega))
  have Q1 := Lib.hid (sealS_opB r)
  have Q2 := Lib.hid (sealS_opS r)
  rw [Q1.out, Q2.out] at QC
  clear Q1 Q2
  generalize sealS r = q at *
  generalize opS r = a at *
  generalize opB r = b at *
  go_wp2_with fail
  refine (OC.out _ ht1.out).mono ?_
  rintro e w2 ⟨rfl, hb2⟩
  have ht2 := Lib.hid (tab_below ht1.out hb2)
  go_wp2_with fail
  refine (RC.out _).mono ?_
  rintro e w3 ⟨rfl, hb3⟩
  have ht3 := Lib.hid (tab_below ht2.out hb3)
  go_wp2_with fail
  refine (SC.out _ ht3.out).mono ?_
  rintro e w4 ⟨rfl, hb4⟩
  have ht4 := Lib.hid (tab_below ht3.out hb4)
  go_wp2_with fail
  refine (QC.out _ ht4.out).mono ?_
  rintro e w5 ⟨rfl, hb5⟩
  have ht5 := Lib.hid (tab_below ht4.out hb5)
  go_wp2_with fail
  refine (SC.out _ ht5.out).mono ?_
  rintro e w6 ⟨rfl, hb6⟩
  go_wp2_with fail
  refine (RS.out _).mono ?_
  rintro e w7 ⟨rfl, hb7⟩
  go_wp2
  go_ret
  have b2 : Below w.heap.size w w2 := hb1.trans (hb2.mono hb1.size)
  have b3 : Below w.heap.size w w3 := b2.trans (hb3.mono b2.size)
  have b4 : Below w.heap.size w w4 := b3.trans (hb4.mono b3.size)
  have b5 : Below w.heap.size w w5 := b4.trans (hb5.mono b4.size)
  have b6 : Below w.heap.size w w6 := b5.trans (hb6.mono b5.size)
  exact ⟨rfl, b6.trans (hb7.mono b6.size)⟩

namespace CheckSeals
theorem contract (H : Type) (enc : TypeId × Value → H) (W : World) (base : Nat) (args : Array Value) (ds gs : List (DataW H)) (before : List MemPlace)
    (hval : ∀ (j : Nat) t v, Tryd.f4.params[j]? = some t → args[j]? = some v → Value.okWide Tryd.prog W .any base t v)
    (hW : DataW.Whole enc Tryd.prog Tryd.f4.params.toList Rows.checkSealsSpec.vars false W args.toList ds gs before) (hL : laidMetH Tryd.prog Rows.checkSealsRow.laid W) :
    Calls Tryd.prog 4 args W fun e W' => ∃ v, e = .returned v ∧ Rows.checkSealsSpec.post enc Tryd.prog Tryd.f4 false true false false W args v W' := by
  have hW' := hW
  obtain ⟨p, q, hA0, hV, rfl, hfz, hnd⟩ := hW
  have hA : DataW.TrodAll enc Tryd.prog W 0 (fun _ => true) true Tryd.f4.params.toList args.toList ds p := hA0
  rw [Tryd.params4] at hA hval
  obtain ⟨v0, vs0, d0, ds0, p0, q0, hargs, rfl, rfl, h0, r0⟩ := trodAll_cons hA
  obtain ⟨rfl, rfl, rfl⟩ := trodAll_nil r0
  obtain rfl : args = #[v0] := by cases args; simp_all
  obtain ⟨rfl, rfl⟩ := trodVars_none hV
  obtain ⟨s0, rfl, rfl, rfl, hmax0⟩ := open_string Tryd.underlying9 (hval 0 9 v0 rfl rfl) h0
  clear hA0
  simp only [List.append_nil] at hW'
  refine (checkSeals_walk s0 hmax0 W (table hL)).mono fun e W' ⟨he, hb⟩ => ?_
  subst he
  exact ⟨_, rfl, post_under (pa := []) (pv := []) hW' (fun _ _ _ => trodAll_cons_mk (shut_bool Tryd.underlying4 _) trodAll_mk0)
    (fun _ => trodAll_cons_mk (shut_string Tryd.underlying9 hmax0) trodAll_mk0) (fun _ => rfl) rfl hb⟩

theorem laid_met (os : Os) : laidMet Tryd.prog Rows.checkSealsRow.laid ((laidWorld os).forCall (fun _ _ => 0) ⟨#[], #[.string .empty], []⟩).memory :=
  laidMet_of_run' 8 (by kernel_rfl) (by kernel_rfl)
theorem reads (os : Os) {H : Type} (enc : TypeId × Value → H) : ∃ places, DataW.whole enc Tryd.prog ((laidWorld os).forCall (fun _ _ => 0) ⟨#[], #[.string .empty], []⟩).memory Tryd.f4.params.toList Rows.checkSealsSpec.vars false #[Value.string .empty].toList 8 = some ([.lit (.string [])], [], places) :=
  ⟨[], by kernel_rfl⟩

set_option maxRecDepth 100000 in
theorem lifted (os : Os) (started : os.Started) (H : Type) (enc : TypeId × Value → H) (F : Stop.Interp) :
    ReturnsInHanded {} Tryd.checked os 4 .any ((OpenSpec.ofChange Rows.checkSealsSpec).preRow enc Tryd.prog Tryd.f4 Rows.checkSealsRow.domain false Rows.checkSealsRow.laid) (((OpenSpec.ofChange Rows.checkSealsSpec).at F).post enc Tryd.prog Tryd.f4 false true false false) := by
  obtain ⟨places, hx⟩ := reads os enc
  refine returnsInHanded_of_row (C := Tryd.checked) (s := OpenSpec.ofChange Rows.checkSealsSpec) own started (by kernel_rfl) Tryd.func4
    (witness_row_at (enc := enc) (C := Tryd.checked) false (laidWorld os) #[.string .empty] rfl (by kernel_rfl) (by kernel_rfl) (by kernel_rfl)
      (OpenSpec.preRow_of_cond 8 hx (by kernel_rfl) (fun k hk => by cases hk) (by kernel_rfl) (laid_met os))) ?_
  intro W base args ds gs before hval hW _ _ _ hL _ _
  exact contract H enc W base args ds gs before hval hW hL

theorem said : Rows.CheckSealsSaid :=
  OpenClaim.holds_of_cond 4 Tryd.f4 rfl rfl rfl rfl rfl rfl rfl ⟨rfl, rfl, rfl, rfl, rfl⟩ rfl rfl rfl rfl rfl (by kernel_rfl) Tryd.func4 (by kernel_rfl)
    (of_decide_eq_true (by kernel_rfl)) (by unfold Func.isWrapper; first | (rw [if_pos (by decide +kernel)]; kernel_rfl) | (rw [if_neg (by decide +kernel)]; exact ⟨rfl, rfl⟩))
    (fun os started H enc _ F => by rw [OpenClaim.pre_eq_preRow]; exact lifted os started H enc F)

theorem plain (f : FuncId) (fn : Func) (hf : Tryd.pinned.checked.prog.funcNamed "scrinium/scriniumlaw04.CheckSeals" = some f) (hfn : Tryd.pinned.checked.prog.funcs[f]? = some fn) :
    false = Tryd.pinned.checked.prog.looks [] ∧ ∀ (j : Nat) t, fn.params[j]? = some t → Tryd.pinned.checked.prog.wantsStandIn t = false := by
  obtain rfl : f = 4 := Option.some.inj ((show Tryd.prog.funcNamed "scrinium/scriniumlaw04.CheckSeals" = some 4 by kernel_rfl).symm.trans hf) |>.symm
  obtain rfl : fn = Tryd.f4 := (Option.some.inj (Tryd.func4.symm.trans hfn)).symm
  refine ⟨by kernel_rfl, fun j t ht => ?_⟩
  rw [Tryd.params4] at ht
  have hm := Array.mem_of_getElem? ht
  simp at hm
  subst hm
  exact (show Tryd.prog.wantsStandIn 9 = false by kernel_rfl)
end CheckSeals

/-- The tied card. -/
theorem checkSeals_card : Rows.CheckSealsCardSaid :=
  Claim7.holds_tied_plain_at .later [] _ _ _ _ CheckSeals.said (fun _ h => by cases h) (by kernel_rfl) (fun _ h => by cases h) checkSeals_row_tie rfl ⟨rfl, rfl⟩ (by kernel_rfl) rfl CheckSeals.plain (by kernel_rfl)
#print axioms checkSeals_card
end Go.Proofs.YtmbgeinjifhagaaDoor
