/- Where both wheels agree, the comparison says so: the walk. Conditions: those that each statement names. -/
import Derived.Test.YtbpjcgahdgpmhaaDoorWheel5
namespace Go.Proofs.YtbpjcgahdgpmhaaDoor.Whl
open Go.RowKit Go.Proofs.YtbpjcgahdgpmhaaDoorW.PrintWords Go.Proofs.YtbpjcgahdgpmhaaDoorW.PrintLast Go.Proofs.YtbpjcgahdgpmhaaDoorW.PrintMore
set_option linter.unusedVariables false
def cntr (x : Nat → Int) : Nat → Nat
  | 0 => 0
  | i + 1 => cntr x i + if 0 < rleft x ((i : Int) - 1) then 1 else 0
theorem cntr_le (x : Nat → Int) : ∀ i, cntr x i ≤ i
  | 0 => Nat.le_refl _
  | i + 1 => by have := cntr_le x i; unfold cntr; split <;> omega
set_option maxHeartbeats 4000000 in
theorem alike_f (w : World) (g gx : Nat) (s : Wh) (x : Nat → Int) (h : At w g s) (hx : Ref w gx x) (hs : s.set < 65536) (hl : ∀ id : Int, -1 ≤ id → id ≤ 16 → left s id = rleft x id)
    (ho : ones s.set = cntr x 18) (h1 : (soon s).1 = rsoon x) (h2 : (soon s).2 = decide (0 < (cntr x 18 : Int))) :
    Calls Tryd.prog 17 #[.pointer (some ⟨g, 0, none⟩), .pointer (some ⟨gx, 0, none⟩)] w fun e w' => e = .returned (.bool true) ∧ Drawn0 w w' := by
  have HA := Aside0.mk h
  have HX := Aside0.mk hx
  have HS := Aside0.mk hs
  have HL := Aside0.mk hl
  have HLe := Aside0.mk fun (w1 : World) (d : Drawn0 w w1) => len_f w1 g s (h.drawn d) hs
  have HSo := Aside0.mk fun (w1 : World) (d : Drawn0 w w1) => soon_f w1 g s (h.drawn d) hs
  have HRs := Aside0.mk fun (w1 : World) (d : Drawn0 w w1) => rsoon_f w1 gx x (hx.drawn d)
  rw [ho] at HLe
  rw [h1, h2] at HSo
  clear h hx hs hl ho h1 h2
  generalize hR : rsoon x = R at HSo HRs
  clear hR
  go_enter Tryd.func17, Tryd.ntmps17
  go_wp2
  go_loopg [5, 6] 19 (fun kq v4 v5 w' => ∃ i : Nat, v4 = .int .i64 (cntr x i : Int) ∧ v5 = .int .i64 ((i : Int) - 1) ∧ Aside0 (kq + i = 19 ∧ i ≤ 18) ∧ Aside0 (Drawn0 w w'))
  case atStart => exact ⟨0, rfl, rfl, ⟨by omega⟩, ⟨Drawn0.refl _⟩⟩
  case round =>
    obtain ⟨i, rfl, rfl, HK, HD⟩ := hrel
    by_cases hi : i < 18
    · obtain ⟨j, hj⟩ : ∃ j : Int, (i : Int) - 1 = j := ⟨_, rfl⟩
      have b0 : decide (j ≤ 16) = true := decide_eq_true (by omega)
      have HLf := Aside0.mk fun (w1 : World) (d : Drawn0 w w1) => left_f w1 g j s (HA.out.drawn d) HS.out
      have HRf := Aside0.mk fun (w1 : World) (d : Drawn0 w w1) => rleft_f w1 gx j x (HX.out.drawn d)
      rw [HL.out j (by omega) (by omega)] at HLf
      have hc : cntr x (i + 1) = cntr x i + if 0 < rleft x j then 1 else 0 := by rw [← hj]; rfl
      have hle := cntr_le x i
      obtain ⟨C, hC⟩ : ∃ C, cntr x i = C := ⟨_, rfl⟩
      rw [hC] at hc hle
      simp only [hC]
      generalize hV : rleft x j = V at HLf HRf hc
      have dw : wrap64 (j + 1) = ((i + 1 : Nat) : Int) - 1 := by rw [w64 (by omega) (by omega)]; omega
      rw [hj]
      by_cases c1 : 0 < V
      · have b1 : decide (0 < V) = true := decide_eq_true c1
        rw [if_pos c1] at hc
        have dc : wrap64 ((C : Int) + 1) = (cntr x (i + 1) : Int) := by rw [hc, w64 (by omega) (by omega)]; omega
        have HDC := Aside0.mk dc
        have HI := Aside0.mk hi
        clear c1 hc hle hV hC hi hj
        go_wp2_with (first | (go_at_call 10; refine (HLf.out _ (by first | exact HD.out | exact drawn_trans HD.out ⟨_, rfl⟩)).mono ?_; rintro e w' ⟨rfl, hd2⟩; have n0_ := Aside0.mk (drawn_trans HD.out hd2); clear HD hd2; have HD := n0_; clear n0_) | (go_at_call 13; refine (HRf.out _ (by first | exact HD.out | exact drawn_trans HD.out ⟨_, rfl⟩)).mono ?_; rintro e w' ⟨rfl, hd2⟩; have n0_ := Aside0.mk (drawn_trans HD.out hd2); clear HD hd2; have HD := n0_; clear n0_))
        go_roundg (gk - 1)
        case measure => have := HK.out; omega
        case rel => exact ⟨i + 1, by first | (rw [HDC.out]; done) | (rw [HDC.out]; simp), by rw [dw], ⟨by have := HK.out; have := HI.out; omega⟩, HD⟩
      · have b1 : decide (0 < V) = false := decide_eq_false c1
        rw [if_neg c1, Nat.add_zero] at hc
        have HDC := Aside0.mk hc
        have HI := Aside0.mk hi
        clear c1 hc hle hV hC hi hj
        go_wp2_with (first | (go_at_call 10; refine (HLf.out _ (by first | exact HD.out | exact drawn_trans HD.out ⟨_, rfl⟩)).mono ?_; rintro e w' ⟨rfl, hd2⟩; have n0_ := Aside0.mk (drawn_trans HD.out hd2); clear HD hd2; have HD := n0_; clear n0_) | (go_at_call 13; refine (HRf.out _ (by first | exact HD.out | exact drawn_trans HD.out ⟨_, rfl⟩)).mono ?_; rintro e w' ⟨rfl, hd2⟩; have n0_ := Aside0.mk (drawn_trans HD.out hd2); clear HD hd2; have HD := n0_; clear n0_))
        go_roundg (gk - 1)
        case measure => have := HK.out; omega
        case rel => exact ⟨i + 1, by first | (rw [HDC.out]; done) | (rw [HDC.out]; simp), by rw [dw], ⟨by have := HK.out; have := HI.out; omega⟩, HD⟩
    · obtain rfl : i = 18 := by have := HK.out; omega
      clear hi
      generalize cntr x 18 = C at *
      have b0 : decide (((18 : Nat) : Int) - 1 ≤ 16) = false := by decide
      go_wp2_with (first | (go_at_call 21; refine (HSo.out _ (by first | exact HD.out | exact drawn_trans HD.out ⟨_, rfl⟩)).mono ?_; rintro e w' ⟨rfl, hd2⟩; have n0_ := Aside0.mk (drawn_trans HD.out hd2); clear HD hd2; have HD := n0_; clear n0_) | (go_at_call 18; refine (HLe.out _ (by first | exact HD.out | exact drawn_trans HD.out ⟨_, rfl⟩)).mono ?_; rintro e w' ⟨rfl, hd2⟩; have n0_ := Aside0.mk (drawn_trans HD.out hd2); clear HD hd2; have HD := n0_; clear n0_) | (go_at_call 22; refine (HRs.out _ (by first | exact HD.out | exact drawn_trans HD.out ⟨_, rfl⟩)).mono ?_; rintro e w' ⟨rfl, hd2⟩; have n0_ := Aside0.mk (drawn_trans HD.out hd2); clear HD hd2; have HD := n0_; clear n0_))
      all_goals (try go_region)
      all_goals (try go_wp2)
      go_ret
      exact ⟨by first | rfl | simp, by first | exact HD.out | exact drawn_trans HD.out ⟨_, rfl⟩⟩
end Go.Proofs.YtbpjcgahdgpmhaaDoor.Whl
