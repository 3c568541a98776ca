/- scriniumlaw04.CheckParts, called with any three texts and any 32-bit number, returns true and leaves its arguments as they were. Conditions: the package-level table of package check reads as its own initialiser lays it when the call begins (the row's cell 'laid'); the card ties this to the program's text, over the packages that the seat's roots load; none other. -/
import Derived.Test.YtmbgeinjifhagaaDoorFrame
import Derived.Test.YtmbgeinjifhagaaDoorCards
import Derived.Test.YtmbgeinjifhagaaDoorArr
namespace Go.Proofs.YtmbgeinjifhagaaDoor
open Go.ChangeShapes Go.WideShapes Go.ChangeAt Go.RowKit
open Go.ChangeMaps (open_string shut_string)

theorem cells9 : Tryd.prog.cellsOf 9 = 1 := by kernel_rfl
theorem cells35 : Tryd.prog.cellsOf 35 = 3 := by kernel_rfl
theorem app_list (a b : ByteArray) : (a ++ b).data.toList = a.data.toList ++ b.data.toList := by
  rw [ByteArray.data_append, Array.toList_append]
theorem app_size (a b : ByteArray) : (a ++ b).size = a.size + b.size := by simp

set_option maxHeartbeats 400000 in
theorem checkParts_walk (s0 s1 s2 : ByteArray) (hs0 : s0.size ≤ maxLen) (hs1 : s1.size ≤ maxLen) (hs2 : s2.size ≤ maxLen) (c : Nat) (hc : c < 4294967296) (w : World) (ht : TabOk w) :
    Calls Tryd.prog 8 #[.agg #[.string s0, .string s1, .string s2], .int .u32 (c : Nat)] w fun e w' => e = .returned (.bool true) ∧ Below w.heap.size w w' := by
  have ht0 := Lib.hid (fun o => tab_alloc ht o)
  go_enter Tryd.func8, Tryd.ntmps8
  go_wp2_with fail
  refine (awake_any _ (ht0.out _)).mono ?_
  rintro e w1 ⟨rfl, hb1⟩
  have ht1 := Lib.hid (tab_below (ht0.out _) hb1)
  have c0 : w1.cell? ⟨w.heap.size, 0, none⟩ = some (.string s0) := by rw [hb1.cell (p := ⟨w.heap.size, 0, none⟩) (by simp)]; simp [go_sem]
  have c1 : w1.cell? ⟨w.heap.size, 1, none⟩ = some (.string s1) := by rw [hb1.cell (p := ⟨w.heap.size, 1, none⟩) (by simp)]; simp [go_sem]
  have c2 : w1.cell? ⟨w.heap.size, 2, none⟩ = some (.string s2) := by rw [hb1.cell (p := ⟨w.heap.size, 2, none⟩) (by simp)]; simp [go_sem]
  have b1 : Below w.heap.size w w1 := ((Below.refl _ _).alloc (Nat.le_refl _) _).trans (hb1.mono (by simp))
  clear hb1 ht0
  go_wp2_with fail
  refine (short_any s0 200 (by omega) hs0 _).mono ?_
  rintro e w2 ⟨a, rfl, ha, rfl⟩
  go_wp2_with fail
  refine (short_any s1 200 (by omega) hs1 _).mono ?_
  rintro e w2 ⟨b, rfl, hb, rfl⟩
  go_wp2_with fail
  refine (short_any s2 200 (by omega) hs2 _).mono ?_
  rintro e w2 ⟨d, rfl, hd, rfl⟩
  clear c0 c1 c2
  have hml : 1000 ≤ maxLen := by unfold maxLen; decide
  obtain ⟨x, hx⟩ : ∃ x, x = Crc.of (a.data.toList ++ b.data.toList ++ d.data.toList) := ⟨_, rfl⟩
  have X1 : Hid (Crc.of (a ++ b ++ d).data.toList = x) := by unfold Hid; rw [hx, app_list, app_list]
  have X2 : Hid (Crc.add (Crc.of a.data.toList) (b ++ d).data.toList = x) := by unfold Hid; rw [hx, app_list, List.append_assoc]; exact Crc.add_append 0 _ _
  have X3 : Hid (Crc.add c (a ++ b).data.toList = Crc.add (Crc.add c a.data.toList) b.data.toList) := by unfold Hid; rw [app_list]; exact (Crc.add_append c _ _).symm
  have X4 : Hid (Crc.add c (⟨#[]⟩ : ByteArray).data.toList = c) := Crc.add_nil c hc
  have HX := Lib.hid hx; clear hx
  have ht2 := Lib.hid (tab_alloc ht1.out)
  go_wp2_with fail
  refine (of_three w1.heap.size a b d _ (ht2.out _) (by simp [go_sem]) (by simp [go_sem]) (by simp [go_sem]) (by omega) (by omega) (by omega)).mono ?_
  rintro e w2 ⟨rfl, rfl⟩
  rw [← HX.out]
  have ht3 := Lib.hid (fun o => tab_alloc (ht2.out o))
  go_wp2_with fail
  refine (of_one _ (a ++ b ++ d) _ (ht3.out _ _) (by simp [go_sem]) (by rw [app_size, app_size]; omega)).mono ?_
  rintro e w2 ⟨rfl, rfl⟩
  rw [X1.out]
  have ht4 := Lib.hid (fun o o' => tab_alloc (ht3.out o o'))
  go_wp2_with fail
  refine (of_one _ a _ (ht4.out _ _ _) (by simp [go_sem]) (by omega)).mono ?_
  rintro e w2 ⟨rfl, rfl⟩
  go_wp2_with fail
  refine (add_any (Crc.of a.data.toList) (Crc.add_lt _ _) (b ++ d) (by rw [app_size]; omega) _ (ht4.out _ _ _)).mono ?_
  rintro e w2 ⟨rfl, rfl⟩
  rw [X2.out]
  have ht5 := Lib.hid (fun o o' o2 => tab_alloc (ht4.out o o' o2))
  go_wp2_with fail
  refine (of_one _ (a ++ b ++ d) _ (ht5.out _ _ _ _) (by simp [go_sem]) (by rw [app_size, app_size]; omega)).mono ?_
  rintro e w2 ⟨rfl, rfl⟩
  rw [X1.out]
  go_wp2_with fail
  refine (add_any c hc a (by omega) _ (ht5.out _ _ _ _)).mono ?_
  rintro e w2 ⟨rfl, rfl⟩
  go_wp2_with fail
  refine (add_any _ (Crc.add_lt _ _) b (by omega) _ (ht5.out _ _ _ _)).mono ?_
  rintro e w2 ⟨rfl, rfl⟩
  go_wp2_with fail
  refine (add_any c hc (a ++ b) (by rw [app_size]; omega) _ (ht5.out _ _ _ _)).mono ?_
  rintro e w2 ⟨rfl, rfl⟩
  rw [X3.out]
  generalize Crc.add (Crc.add c a.data.toList) b.data.toList = y at *
  go_wp2_with fail
  refine (add_any c hc ⟨#[]⟩ (by decide) _ (ht5.out _ _ _ _)).mono ?_
  rintro e w2 ⟨rfl, rfl⟩
  rw [X4.out]
  go_wp2
  go_ret
  refine ⟨rfl, ?_⟩
  have hz := b1.size
  exact (((b1.alloc hz _).alloc (by simp; omega) _).alloc (by simp; omega) _).alloc (by simp; omega) _

namespace CheckParts
theorem contract (H : Type) (enc : TypeId × Value → H) (W : World) (base : Nat) (args : Array Value) (ds gs : List (DataW H)) (before : List MemPlace)
    (hval : ∀ (j : Nat) t v, Tryd.f8.params[j]? = some t → args[j]? = some v → Value.okWide Tryd.prog W .any base t v)
    (hW : DataW.Whole enc Tryd.prog Tryd.f8.params.toList Rows.checkPartsSpec.vars false W args.toList ds gs before) (hL : laidMetH Tryd.prog Rows.checkPartsRow.laid W) :
    Calls Tryd.prog 8 args W fun e W' => ∃ v, e = .returned v ∧ Rows.checkPartsSpec.post enc Tryd.prog Tryd.f8 false true false false W args v W' := by
  have hW' := hW
  obtain ⟨p, q, hA0, hV, rfl, hfz, hnd⟩ := hW
  have hA : DataW.TrodAll enc Tryd.prog W 0 (fun _ => true) true Tryd.f8.params.toList args.toList ds p := hA0
  rw [Tryd.params8] at hA hval
  obtain ⟨v0, vs0, d0, ds0, p0, q0, hargs, rfl, rfl, h0, r0⟩ := trodAll_cons hA
  obtain ⟨v1, vs1, d1, ds1, p1, q1, rfl, rfl, rfl, h1, r1⟩ := trodAll_cons r0
  obtain ⟨rfl, rfl, rfl⟩ := trodAll_nil r1
  obtain rfl : args = #[v0, v1] := by cases args; simp_all
  obtain ⟨rfl, rfl⟩ := trodVars_none hV
  obtain ⟨a0, a1, a2, rfl, rfl, rfl, m0, m1, m2⟩ := open_texts3 Tryd.underlying35 Tryd.underlying9 cells9 cells35 (hval 0 35 v0 rfl rfl) h0
  obtain ⟨x1, rfl, rfl, rfl, wx1⟩ := open_int Tryd.underlying22 (hval 1 22 v1 rfl rfl) h1
  clear hA0
  simp only [List.append_nil] at hW'
  have bx1 := bounds_u32 wx1
  obtain ⟨c1, rfl⟩ := Int.eq_ofNat_of_zero_le bx1.1
  refine (checkParts_walk a0 a1 a2 m0 m1 m2 c1 (by omega) W (table hL)).mono fun e W' ⟨he, hb⟩ => ?_
  subst he
  exact ⟨_, rfl, post_under (pa := []) (pv := []) hW' (fun _ _ _ => trodAll_cons_mk (shut_bool Tryd.underlying4 _) trodAll_mk0)
    (fun _ => trodAll_cons_mk (shut_texts3 Tryd.underlying35 Tryd.underlying9 cells9 cells35 m0 m1 m2) (trodAll_cons_mk (shut_int Tryd.underlying22 wx1) trodAll_mk0)) (fun _ => rfl) rfl hb⟩

theorem laid_met (os : Os) : laidMet Tryd.prog Rows.checkPartsRow.laid ((laidWorld os).forCall (fun _ _ => 0) ⟨#[], #[.agg #[.string .empty, .string .empty, .string .empty], .int .u32 0], []⟩).memory :=
  laidMet_of_run' 8 (by kernel_rfl) (by kernel_rfl)
theorem reads (os : Os) {H : Type} (enc : TypeId × Value → H) : ∃ places, DataW.whole enc Tryd.prog ((laidWorld os).forCall (fun _ _ => 0) ⟨#[], #[.agg #[.string .empty, .string .empty, .string .empty], .int .u32 0], []⟩).memory Tryd.f8.params.toList Rows.checkPartsSpec.vars false #[Value.agg #[.string .empty, .string .empty, .string .empty], Value.int .u32 0].toList 8 = some ([.agg [.lit (.string []), .lit (.string []), .lit (.string [])], .lit (.int .u32 0)], [], places) :=
  ⟨[], by kernel_rfl⟩

set_option maxRecDepth 100000 in
theorem lifted (os : Os) (started : os.Started) (H : Type) (enc : TypeId × Value → H) (F : Stop.Interp) :
    ReturnsInHanded {} Tryd.checked os 8 .any ((OpenSpec.ofChange Rows.checkPartsSpec).preRow enc Tryd.prog Tryd.f8 Rows.checkPartsRow.domain false Rows.checkPartsRow.laid) (((OpenSpec.ofChange Rows.checkPartsSpec).at F).post enc Tryd.prog Tryd.f8 false true false false) := by
  obtain ⟨places, hx⟩ := reads os enc
  refine returnsInHanded_of_row (C := Tryd.checked) (s := OpenSpec.ofChange Rows.checkPartsSpec) own started (by kernel_rfl) Tryd.func8
    (witness_row_at (enc := enc) (C := Tryd.checked) false (laidWorld os) #[.agg #[.string .empty, .string .empty, .string .empty], .int .u32 0] rfl (by kernel_rfl) (by kernel_rfl) (by kernel_rfl)
      (OpenSpec.preRow_of_cond 8 hx (by kernel_rfl) (fun k hk => by cases hk) (by kernel_rfl) (laid_met os))) ?_
  intro W base args ds gs before hval hW _ _ _ hL _ _
  exact contract H enc W base args ds gs before hval hW hL

theorem said : Rows.CheckPartsSaid :=
  OpenClaim.holds_of_cond 8 Tryd.f8 rfl rfl rfl rfl rfl rfl rfl ⟨rfl, rfl, rfl, rfl, rfl⟩ rfl rfl rfl rfl rfl (by kernel_rfl) Tryd.func8 (by kernel_rfl)
    (of_decide_eq_true (by kernel_rfl)) (by unfold Func.isWrapper; first | (rw [if_pos (by decide +kernel)]; kernel_rfl) | (rw [if_neg (by decide +kernel)]; exact ⟨rfl, rfl⟩))
    (fun os started H enc _ F => by rw [OpenClaim.pre_eq_preRow]; exact lifted os started H enc F)

theorem plain (f : FuncId) (fn : Func) (hf : Tryd.pinned.checked.prog.funcNamed "scrinium/scriniumlaw04.CheckParts" = some f) (hfn : Tryd.pinned.checked.prog.funcs[f]? = some fn) :
    false = Tryd.pinned.checked.prog.looks [] ∧ ∀ (j : Nat) t, fn.params[j]? = some t → Tryd.pinned.checked.prog.wantsStandIn t = false := by
  obtain rfl : f = 8 := Option.some.inj ((show Tryd.prog.funcNamed "scrinium/scriniumlaw04.CheckParts" = some 8 by kernel_rfl).symm.trans hf) |>.symm
  obtain rfl : fn = Tryd.f8 := (Option.some.inj (Tryd.func8.symm.trans hfn)).symm
  refine ⟨by kernel_rfl, fun j t ht => ?_⟩
  rw [Tryd.params8] at ht
  have hm := Array.mem_of_getElem? ht
  simp at hm
  rcases hm with rfl | rfl
  · exact (show Tryd.prog.wantsStandIn 35 = false by kernel_rfl)
  · exact (show Tryd.prog.wantsStandIn 22 = false by kernel_rfl)
end CheckParts

/-- The tied card. -/
theorem checkParts_card : Rows.CheckPartsCardSaid :=
  Claim7.holds_tied_plain_at .later [] _ _ _ _ CheckParts.said (fun _ h => by cases h) (by kernel_rfl) (fun _ h => by cases h) checkParts_row_tie rfl ⟨rfl, rfl⟩ (by kernel_rfl) rfl CheckParts.plain (by kernel_rfl)
#print axioms checkParts_card
end Go.Proofs.YtmbgeinjifhagaaDoor
