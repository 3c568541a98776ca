/- scriniumlaw04.CheckConst, called with any text, returns true and leaves its argument as it was. Conditions: the package-level table of package check reads as its own initialiser lays it when the call begins (the row's cell 'laid'); the card ties this to the program's text, over the packages that the seat's roots load; none other. -/
import Derived.Test.YtmbgeinjifhagaaDoorFrame
import Derived.Test.YtmbgeinjifhagaaDoorCards
import Derived.Test.YtmbgeinjifhagaaDoorOpn
namespace Go.Proofs.YtmbgeinjifhagaaDoor
open Go.ChangeShapes Go.WideShapes Go.ChangeAt Go.RowKit
open Go.ChangeMaps (open_string shut_string)

theorem checkConst_walk (s : ByteArray) (hs : s.size ≤ maxLen) (w : World) (ht : TabOk w) :
    Calls Tryd.prog 9 #[.string s] w fun e w' => e = .returned (.bool true) ∧ Below w.heap.size w w' := by
  go_enter Tryd.func9, Tryd.ntmps9
  go_wp2_with fail
  refine (awake_any w ht).mono ?_
  rintro e w1 ⟨rfl, hb1⟩
  have ht1 := Lib.hid (tab_below ht hb1)
  go_wp2_with fail
  refine (short_any s 500 (by omega) hs _).mono ?_
  rintro e w2 ⟨r, rfl, hr, rfl⟩
  have SC := Lib.hid (fun w ht => seal_call r w ht (by omega))
  have SE := Lib.hid (fun w ht => seal_call ⟨#[]⟩ w ht (by decide))
  have Q1 := Lib.hid (sealS_size r)
  have Q2 := Lib.hid (sealS_of r)
  have Q3 := Lib.hid (sealS_whole r)
  have P1 := Lib.hid (sealS_size ⟨#[]⟩)
  have P2 := Lib.hid (sealS_of ⟨#[]⟩)
  generalize sealS r = q at *
  generalize sealS ⟨#[]⟩ = p at *
  have hqm : q.size ≤ maxLen := by have := Q1.out; unfold maxLen; omega
  have hpm : p.size ≤ maxLen := by rw [P1.out]; decide
  have hlen : ((q.size : Int) == (r.size : Int) + 4) = true := by rw [Q1.out]; simp
  go_wp2_with fail
  refine (SC.out _ ht1.out).mono ?_
  rintro e w2 ⟨rfl, hb2⟩
  have ht2 := Lib.hid (tab_below ht1.out hb2)
  have ht2a := Lib.hid (tab_alloc ht2.out)
  go_wp2_with fail
  refine (of_one w2.heap.size q _ (ht2a.out _) (by simp [go_sem]) hqm).mono ?_
  rintro e w3 ⟨rfl, rfl⟩
  rw [Q2.out]
  go_wp2_with fail
  refine (SE.out _ (ht2a.out _)).mono ?_
  rintro e w4 ⟨rfl, hb4⟩
  have ht4 := Lib.hid (tab_below (ht2a.out _) hb4)
  have ht4a := Lib.hid (tab_alloc ht4.out)
  go_wp2_with fail
  refine (of_one w4.heap.size p _ (ht4a.out _) (by simp [go_sem]) hpm).mono ?_
  rintro e w5 ⟨rfl, rfl⟩
  rw [P2.out]
  go_wp2_with fail
  refine (SC.out _ (ht4a.out _)).mono ?_
  rintro e w6 ⟨rfl, hb6⟩
  have ht6 := Lib.hid (tab_below (ht4a.out _) hb6)
  go_wp2_with fail
  refine (whole_is q true _ ht6.out hqm Q3.out).mono ?_
  rintro e w7 ⟨rfl, hb7⟩
  have ht7 := Lib.hid (tab_below ht6.out hb7)
  go_wp2_with fail
  refine (SC.out _ ht7.out).mono ?_
  rintro e w8 ⟨rfl, hb8⟩
  go_wp2
  go_ret
  have b2 : Below w.heap.size w w2 := hb1.trans (hb2.mono hb1.size)
  have b4 : Below w.heap.size w w4 := (b2.alloc b2.size _).trans (hb4.mono (by have := b2.size; simp; omega))
  have b6 : Below w.heap.size w w6 := (b4.alloc b4.size _).trans (hb6.mono (by have := b4.size; simp; omega))
  have b7 : Below w.heap.size w w7 := b6.trans (hb7.mono b6.size)
  exact ⟨rfl, b7.trans (hb8.mono b7.size)⟩

namespace CheckConst
theorem contract (H : Type) (enc : TypeId × Value → H) (W : World) (base : Nat) (args : Array Value) (ds gs : List (DataW H)) (before : List MemPlace)
    (hval : ∀ (j : Nat) t v, Tryd.f9.params[j]? = some t → args[j]? = some v → Value.okWide Tryd.prog W .any base t v)
    (hW : DataW.Whole enc Tryd.prog Tryd.f9.params.toList Rows.checkConstSpec.vars false W args.toList ds gs before) (hL : laidMetH Tryd.prog Rows.checkConstRow.laid W) :
    Calls Tryd.prog 9 args W fun e W' => ∃ v, e = .returned v ∧ Rows.checkConstSpec.post enc Tryd.prog Tryd.f9 false true false false W args v W' := by
  have hW' := hW
  obtain ⟨p, q, hA0, hV, rfl, hfz, hnd⟩ := hW
  have hA : DataW.TrodAll enc Tryd.prog W 0 (fun _ => true) true Tryd.f9.params.toList args.toList ds p := hA0
  rw [Tryd.params9] at hA hval
  obtain ⟨v0, vs0, d0, ds0, p0, q0, hargs, rfl, rfl, h0, r0⟩ := trodAll_cons hA
  obtain ⟨rfl, rfl, rfl⟩ := trodAll_nil r0
  obtain rfl : args = #[v0] := by cases args; simp_all
  obtain ⟨rfl, rfl⟩ := trodVars_none hV
  obtain ⟨s0, rfl, rfl, rfl, hmax0⟩ := open_string Tryd.underlying9 (hval 0 9 v0 rfl rfl) h0
  clear hA0
  simp only [List.append_nil] at hW'
  refine (checkConst_walk s0 hmax0 W (table hL)).mono fun e W' ⟨he, hb⟩ => ?_
  subst he
  exact ⟨_, rfl, post_under (pa := []) (pv := []) hW' (fun _ _ _ => trodAll_cons_mk (shut_bool Tryd.underlying4 _) trodAll_mk0)
    (fun _ => trodAll_cons_mk (shut_string Tryd.underlying9 hmax0) trodAll_mk0) (fun _ => rfl) rfl hb⟩

theorem laid_met (os : Os) : laidMet Tryd.prog Rows.checkConstRow.laid ((laidWorld os).forCall (fun _ _ => 0) ⟨#[], #[.string .empty], []⟩).memory :=
  laidMet_of_run' 8 (by kernel_rfl) (by kernel_rfl)
theorem reads (os : Os) {H : Type} (enc : TypeId × Value → H) : ∃ places, DataW.whole enc Tryd.prog ((laidWorld os).forCall (fun _ _ => 0) ⟨#[], #[.string .empty], []⟩).memory Tryd.f9.params.toList Rows.checkConstSpec.vars false #[Value.string .empty].toList 8 = some ([.lit (.string [])], [], places) :=
  ⟨[], by kernel_rfl⟩

set_option maxRecDepth 100000 in
theorem lifted (os : Os) (started : os.Started) (H : Type) (enc : TypeId × Value → H) (F : Stop.Interp) :
    ReturnsInHanded {} Tryd.checked os 9 .any ((OpenSpec.ofChange Rows.checkConstSpec).preRow enc Tryd.prog Tryd.f9 Rows.checkConstRow.domain false Rows.checkConstRow.laid) (((OpenSpec.ofChange Rows.checkConstSpec).at F).post enc Tryd.prog Tryd.f9 false true false false) := by
  obtain ⟨places, hx⟩ := reads os enc
  refine returnsInHanded_of_row (C := Tryd.checked) (s := OpenSpec.ofChange Rows.checkConstSpec) own started (by kernel_rfl) Tryd.func9
    (witness_row_at (enc := enc) (C := Tryd.checked) false (laidWorld os) #[.string .empty] rfl (by kernel_rfl) (by kernel_rfl) (by kernel_rfl)
      (OpenSpec.preRow_of_cond 8 hx (by kernel_rfl) (fun k hk => by cases hk) (by kernel_rfl) (laid_met os))) ?_
  intro W base args ds gs before hval hW _ _ _ hL _ _
  exact contract H enc W base args ds gs before hval hW hL

theorem said : Rows.CheckConstSaid :=
  OpenClaim.holds_of_cond 9 Tryd.f9 rfl rfl rfl rfl rfl rfl rfl ⟨rfl, rfl, rfl, rfl, rfl⟩ rfl rfl rfl rfl rfl (by kernel_rfl) Tryd.func9 (by kernel_rfl)
    (of_decide_eq_true (by kernel_rfl)) (by unfold Func.isWrapper; first | (rw [if_pos (by decide +kernel)]; kernel_rfl) | (rw [if_neg (by decide +kernel)]; exact ⟨rfl, rfl⟩))
    (fun os started H enc _ F => by rw [OpenClaim.pre_eq_preRow]; exact lifted os started H enc F)

theorem plain (f : FuncId) (fn : Func) (hf : Tryd.pinned.checked.prog.funcNamed "scrinium/scriniumlaw04.CheckConst" = some f) (hfn : Tryd.pinned.checked.prog.funcs[f]? = some fn) :
    false = Tryd.pinned.checked.prog.looks [] ∧ ∀ (j : Nat) t, fn.params[j]? = some t → Tryd.pinned.checked.prog.wantsStandIn t = false := by
  obtain rfl : f = 9 := Option.some.inj ((show Tryd.prog.funcNamed "scrinium/scriniumlaw04.CheckConst" = some 9 by kernel_rfl).symm.trans hf) |>.symm
  obtain rfl : fn = Tryd.f9 := (Option.some.inj (Tryd.func9.symm.trans hfn)).symm
  refine ⟨by kernel_rfl, fun j t ht => ?_⟩
  rw [Tryd.params9] at ht
  have hm := Array.mem_of_getElem? ht
  simp at hm
  subst hm
  exact (show Tryd.prog.wantsStandIn 9 = false by kernel_rfl)
end CheckConst

/-- The tied card. -/
theorem checkConst_card : Rows.CheckConstCardSaid :=
  Claim7.holds_tied_plain_at .later [] _ _ _ _ CheckConst.said (fun _ h => by cases h) (by kernel_rfl) (fun _ h => by cases h) checkConst_row_tie rfl ⟨rfl, rfl⟩ (by kernel_rfl) rfl CheckConst.plain (by kernel_rfl)
#print axioms checkConst_card
end Go.Proofs.YtmbgeinjifhagaaDoor
