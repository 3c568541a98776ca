/- The walk over the laws' awake (function 7): the chapter's examples. -/
import Derived.Test.YtcmgehfhhnlniaaTick
namespace Go.Proofs.Ytcmgehfhhnlniaa
open Go.RowKit

theorem awake_any (w : World) :
    Calls Try.prog 7 #[] w fun e w' => e = .returned (.bool true) ∧ Below w.heap.size w w' := by
  have BC := Lib.hid (begin_any 2 10)
  have EC := Lib.hid (end_any 2 10)
  have TC := Lib.hid (tick_any 5 4)
  have OC := Lib.hid (of_any 25 10)
  have X1 := Lib.hid (expired_any 2 10 5 34)
  have X2 := Lib.hid (expired_any 2 10 5 35)
  rw [show beV 2 10 = 20 from by decide, show beB 2 10 = true from by decide] at BC
  rw [show enV 2 10 = 30 from by decide, show enB 2 10 = true from by decide] at EC
  rw [show tiV 5 4 = 5 from by decide, show tiE 5 4 = 21 from by decide] at TC
  rw [show ofF 25 10 = 2 from by decide] at OC
  rw [show exB 2 10 5 34 = false from by decide] at X1
  rw [show exB 2 10 5 35 = true from by decide] at X2
  go_enter Try.func7, Try.ntmps7
  go_wp2_with fail
  refine (BC.out _).mono ?_
  rintro e w1 ⟨rfl, hb1⟩
  go_wp2_with fail
  refine (EC.out _).mono ?_
  rintro e w2 ⟨rfl, hb2⟩
  go_wp2_with fail
  refine (TC.out _).mono ?_
  rintro e w3 ⟨rfl, hb3⟩
  go_wp2_with fail
  refine (OC.out _).mono ?_
  rintro e w4 ⟨rfl, hb4⟩
  go_wp2_with fail
  refine (X1.out _).mono ?_
  rintro e w5 ⟨rfl, hb5⟩
  go_wp2_with fail
  refine (X2.out _).mono ?_
  rintro e w6 ⟨rfl, hb6⟩
  go_wp2
  go_ret
  have b2 := hb1.trans (hb2.mono hb1.size)
  have b3 := b2.trans (hb3.mono b2.size)
  have b4 := b3.trans (hb4.mono b3.size)
  have b5 := b4.trans (hb5.mono b4.size)
  exact ⟨rfl, b5.trans (hb6.mono b5.size)⟩
end Go.Proofs.Ytcmgehfhhnlniaa
