/- scriniumlaw04.CheckTurned, called with any text, any place and any 32 bits, returns true and leaves its arguments as they were. Conditions: the package-level table of package check reads as its own initialiser lays it when the call begins (the row's cell 'laid'); the card ties this to the program's text, over the packages that the seat's roots load; none other. -/
import Derived.Test.YtmbgeinjifhagaaDoorFrame
import Derived.Test.YtmbgeinjifhagaaDoorCards
import Derived.Test.YtmbgeinjifhagaaDoorTurn
namespace Go.Proofs.YtmbgeinjifhagaaDoor
open Go.ChangeShapes Go.WideShapes Go.ChangeAt Go.RowKit
open Go.ChangeMaps (open_string shut_string)

theorem checkTurned_walk (s : ByteArray) (hs : s.size ≤ maxLen) (x : Int) (hx : -9223372036854775808 ≤ x ∧ x ≤ 9223372036854775807) (c : Nat) (hc : c < 4294967296) (w : World) (ht : TabOk w) :
    Calls Tryd.prog 6 #[.string s, .int .i64 x, .int .u32 (c : Nat)] w fun e w' => e = .returned (.bool true) ∧ Below w.heap.size w w' := by
  have HX := Lib.hid hx; clear hx
  go_enter Tryd.func6, Tryd.ntmps6
  go_wp2_with fail
  refine (awake_any w ht).mono ?_
  rintro e w1 ⟨rfl, hb1⟩
  have ht1 := Lib.hid (tab_below ht hb1)
  go_wp2_with fail
  refine (short_any s 300 (by omega) hs _).mono ?_
  rintro e w2 ⟨r, rfl, hr, rfl⟩
  have hrm : r.size ≤ maxLen := by unfold maxLen; omega
  by_cases h5 : r.size < 5
  · have hd : decide ((r.size : Int) < 5) = true := by simp; omega
    go_wp2
    go_ret
    exact ⟨rfl, hb1⟩
  · have hd : decide ((r.size : Int) < 5) = false := by simp; omega
    by_cases hc0 : c = 0
    · have hz : ((c : Int) == 0) = true := by simp [hc0]
      clear hc0
      go_wp2
      go_ret
      exact ⟨rfl, hb1⟩
    · have hz : ((c : Int) == 0) = false := by simp [hc0]
      go_wp2_with fail
      refine (turned_any r x c HX.out hc (by omega) (by omega) _).mono ?_
      rintro e w2 ⟨n, hn, rfl, hb2⟩
      have hq := turned_size r n c
      have HNE := Lib.hid (Crc.turned_of n c r.data.toList (by simpa using hn) hc hc0)
      have HQ : Hid ((⟨(Crc.turned n c r.data.toList).toArray⟩ : ByteArray).data.toList = Crc.turned n c r.data.toList) := by unfold Hid; simp
      rw [← HQ.out] at HNE
      clear HQ hc0
      generalize (⟨(Crc.turned n c r.data.toList).toArray⟩ : ByteArray) = q at *
      have hqm : q.size ≤ maxLen := by rw [hq]; exact hrm
      clear hq
      have ht2 := Lib.hid (tab_below ht1.out hb2)
      have ht2a := Lib.hid (tab_alloc ht2.out)
      go_wp2_with fail
      refine (of_one w2.heap.size q _ (ht2a.out _) (by simp [go_sem]) hqm).mono ?_
      rintro e w3 ⟨rfl, rfl⟩
      have ht3a := Lib.hid (fun o => tab_alloc (ht2a.out o))
      go_wp2_with fail
      refine (of_one _ r _ (ht3a.out _ _) (by simp [go_sem]) hrm).mono ?_
      rintro e w3 ⟨rfl, rfl⟩
      have hAB : (((Crc.of q.data.toList : Nat) : Int) != ((Crc.of r.data.toList : Nat) : Int)) = true := by
        rw [bne_iff_ne]
        intro h
        exact HNE.out (by omega)
      clear HNE
      generalize Crc.of q.data.toList = a at *
      generalize Crc.of r.data.toList = b at *
      go_wp2
      go_ret
      have b2 : Below w.heap.size w w2 := hb1.trans (hb2.mono hb1.size)
      exact ⟨rfl, (b2.alloc b2.size _).alloc (by have := b2.size; simp; omega) _⟩

namespace CheckTurned
theorem contract (H : Type) (enc : TypeId × Value → H) (W : World) (base : Nat) (args : Array Value) (ds gs : List (DataW H)) (before : List MemPlace)
    (hval : ∀ (j : Nat) t v, Tryd.f6.params[j]? = some t → args[j]? = some v → Value.okWide Tryd.prog W .any base t v)
    (hW : DataW.Whole enc Tryd.prog Tryd.f6.params.toList Rows.checkTurnedSpec.vars false W args.toList ds gs before) (hL : laidMetH Tryd.prog Rows.checkTurnedRow.laid W) :
    Calls Tryd.prog 6 args W fun e W' => ∃ v, e = .returned v ∧ Rows.checkTurnedSpec.post enc Tryd.prog Tryd.f6 false true false false W args v W' := by
  have hW' := hW
  obtain ⟨p, q, hA0, hV, rfl, hfz, hnd⟩ := hW
  have hA : DataW.TrodAll enc Tryd.prog W 0 (fun _ => true) true Tryd.f6.params.toList args.toList ds p := hA0
  rw [Tryd.params6] at hA hval
  obtain ⟨v0, vs0, d0, ds0, p0, q0, hargs, rfl, rfl, h0, r0⟩ := trodAll_cons hA
  obtain ⟨v1, vs1, d1, ds1, p1, q1, rfl, rfl, rfl, h1, r1⟩ := trodAll_cons r0
  obtain ⟨v2, vs2, d2, ds2, p2, q2, rfl, rfl, rfl, h2, r2⟩ := trodAll_cons r1
  obtain ⟨rfl, rfl, rfl⟩ := trodAll_nil r2
  obtain rfl : args = #[v0, v1, v2] := by cases args; simp_all
  obtain ⟨rfl, rfl⟩ := trodVars_none hV
  obtain ⟨s0, rfl, rfl, rfl, hmax0⟩ := open_string Tryd.underlying9 (hval 0 9 v0 rfl rfl) h0
  obtain ⟨x1, rfl, rfl, rfl, wx1⟩ := open_int Tryd.underlying3 (hval 1 3 v1 rfl rfl) h1
  obtain ⟨x2, rfl, rfl, rfl, wx2⟩ := open_int Tryd.underlying22 (hval 2 22 v2 rfl rfl) h2
  clear hA0
  simp only [List.append_nil] at hW'
  have bx2 := bounds_u32 wx2
  obtain ⟨c2, rfl⟩ := Int.eq_ofNat_of_zero_le bx2.1
  refine (checkTurned_walk s0 hmax0 x1 (bounds_i64 wx1) c2 (by omega) W (table hL)).mono fun e W' ⟨he, hb⟩ => ?_
  subst he
  exact ⟨_, rfl, post_under (pa := []) (pv := []) hW' (fun _ _ _ => trodAll_cons_mk (shut_bool Tryd.underlying4 _) trodAll_mk0)
    (fun _ => trodAll_cons_mk (shut_string Tryd.underlying9 hmax0) (trodAll_cons_mk (shut_int Tryd.underlying3 wx1) (trodAll_cons_mk (shut_int Tryd.underlying22 wx2) trodAll_mk0))) (fun _ => rfl) rfl hb⟩

theorem laid_met (os : Os) : laidMet Tryd.prog Rows.checkTurnedRow.laid ((laidWorld os).forCall (fun _ _ => 0) ⟨#[], #[.string .empty, .int .i64 0, .int .u32 0], []⟩).memory :=
  laidMet_of_run' 8 (by kernel_rfl) (by kernel_rfl)
theorem reads (os : Os) {H : Type} (enc : TypeId × Value → H) : ∃ places, DataW.whole enc Tryd.prog ((laidWorld os).forCall (fun _ _ => 0) ⟨#[], #[.string .empty, .int .i64 0, .int .u32 0], []⟩).memory Tryd.f6.params.toList Rows.checkTurnedSpec.vars false #[Value.string .empty, Value.int .i64 0, Value.int .u32 0].toList 8 = some ([.lit (.string []), .lit (.int .i64 0), .lit (.int .u32 0)], [], places) :=
  ⟨[], by kernel_rfl⟩

set_option maxRecDepth 100000 in
theorem lifted (os : Os) (started : os.Started) (H : Type) (enc : TypeId × Value → H) (F : Stop.Interp) :
    ReturnsInHanded {} Tryd.checked os 6 .any ((OpenSpec.ofChange Rows.checkTurnedSpec).preRow enc Tryd.prog Tryd.f6 Rows.checkTurnedRow.domain false Rows.checkTurnedRow.laid) (((OpenSpec.ofChange Rows.checkTurnedSpec).at F).post enc Tryd.prog Tryd.f6 false true false false) := by
  obtain ⟨places, hx⟩ := reads os enc
  refine returnsInHanded_of_row (C := Tryd.checked) (s := OpenSpec.ofChange Rows.checkTurnedSpec) own started (by kernel_rfl) Tryd.func6
    (witness_row_at (enc := enc) (C := Tryd.checked) false (laidWorld os) #[.string .empty, .int .i64 0, .int .u32 0] rfl (by kernel_rfl) (by kernel_rfl) (by kernel_rfl)
      (OpenSpec.preRow_of_cond 8 hx (by kernel_rfl) (fun k hk => by cases hk) (by kernel_rfl) (laid_met os))) ?_
  intro W base args ds gs before hval hW _ _ _ hL _ _
  exact contract H enc W base args ds gs before hval hW hL

theorem said : Rows.CheckTurnedSaid :=
  OpenClaim.holds_of_cond 6 Tryd.f6 rfl rfl rfl rfl rfl rfl rfl ⟨rfl, rfl, rfl, rfl, rfl⟩ rfl rfl rfl rfl rfl (by kernel_rfl) Tryd.func6 (by kernel_rfl)
    (of_decide_eq_true (by kernel_rfl)) (by unfold Func.isWrapper; first | (rw [if_pos (by decide +kernel)]; kernel_rfl) | (rw [if_neg (by decide +kernel)]; exact ⟨rfl, rfl⟩))
    (fun os started H enc _ F => by rw [OpenClaim.pre_eq_preRow]; exact lifted os started H enc F)

theorem plain (f : FuncId) (fn : Func) (hf : Tryd.pinned.checked.prog.funcNamed "scrinium/scriniumlaw04.CheckTurned" = some f) (hfn : Tryd.pinned.checked.prog.funcs[f]? = some fn) :
    false = Tryd.pinned.checked.prog.looks [] ∧ ∀ (j : Nat) t, fn.params[j]? = some t → Tryd.pinned.checked.prog.wantsStandIn t = false := by
  obtain rfl : f = 6 := Option.some.inj ((show Tryd.prog.funcNamed "scrinium/scriniumlaw04.CheckTurned" = some 6 by kernel_rfl).symm.trans hf) |>.symm
  obtain rfl : fn = Tryd.f6 := (Option.some.inj (Tryd.func6.symm.trans hfn)).symm
  refine ⟨by kernel_rfl, fun j t ht => ?_⟩
  rw [Tryd.params6] at ht
  have hm := Array.mem_of_getElem? ht
  simp at hm
  rcases hm with rfl | rfl | rfl
  · exact (show Tryd.prog.wantsStandIn 9 = false by kernel_rfl)
  · exact (show Tryd.prog.wantsStandIn 3 = false by kernel_rfl)
  · exact (show Tryd.prog.wantsStandIn 22 = false by kernel_rfl)
end CheckTurned

/-- The tied card. -/
theorem checkTurned_card : Rows.CheckTurnedCardSaid :=
  Claim7.holds_tied_plain_at .later [] _ _ _ _ CheckTurned.said (fun _ h => by cases h) (by kernel_rfl) (fun _ h => by cases h) checkTurned_row_tie rfl ⟨rfl, rfl⟩ (by kernel_rfl) rfl CheckTurned.plain (by kernel_rfl)
#print axioms checkTurned_card
end Go.Proofs.YtmbgeinjifhagaaDoor
