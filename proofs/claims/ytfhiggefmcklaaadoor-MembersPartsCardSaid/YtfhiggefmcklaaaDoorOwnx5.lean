/- Contracts of functions of the given program, each under the conditions that it states (a run of the kit's printer, by hprint.py, with contracts of our own among its functions). -/
import Derived.Test.YtfhiggefmcklaaaDoorOwnx0
import Derived.Test.YtfhiggefmcklaaaDoorOwnx1
import Derived.Test.YtfhiggefmcklaaaDoorOwnx2
import Derived.Test.YtfhiggefmcklaaaDoorOwnx3
namespace Go.Proofs.YtfhiggefmcklaaaDoor.Own
open Go.RowKit Go.Proofs.YtfhiggefmcklaaaDoorW.PrintWords Go.Proofs.YtfhiggefmcklaaaDoorW.PrintLast Go.Proofs.YtfhiggefmcklaaaDoorW.PrintMore
attribute [local go_sem] max2_int min2_int max_two min_two max_three min_three max_four min_four   -- for this text's walks alone
set_option linter.unusedVariables false
set_option linter.unusedSimpArgs false

/-! ### fuglemanlaw05_MembersRound: function 5 -/
def fuglemanlaw05_MembersRound.l0 : Nat → Int → Int → Int → Int → Int → Int → Option (Bool)
  | 0, _, _, _, _, _, _ => none
  | k + 1, x0, x6, x7, x8, x30, x31 => if x31 < x30 then ((members_Next.f x0 x8).bind fun bt228 => ((members_Prev.f x0 bt228.1).bind fun bt230 => (if bt228.2 = true then (if bt230.2 = true then (if bt230.1 = x8 then ((members_Has.f x7 bt228.1).bind fun t232 => (if t232 = true then (some false) else ((members_Between.f x8 bt228.1).bind fun t233 => (if (Go.bits .and .u32 t233 x0) = 0 then ((members_With.f x7 bt228.1).bind fun t234 => (fuglemanlaw05_MembersRound.l0 k x0 x6 t234 bt228.1 x30 (wrap64 (x31 + 1)))) else (some false))))) else (some false)) else (some false)) else (some false)))) else (if x8 = x6 then (some (x7 == x0)) else (some false))
def fuglemanlaw05_MembersRound.f (k : Nat) (a0 : Int) (a1 : Int) : Option (Bool) := (fuglemanlaw05_awake.f k).bind fun t223 => (if t223 = true then ((members_List.f k a0).bind fun t224 => (if (t224.length : Int) < 2 then (some true) else (if (t224.length : Int) = 0 then (none) else (if 0 ≤ (Int.tmod (wrap64 (a1)) (t224.length : Int)) then (if (Int.tmod (wrap64 (a1)) (t224.length : Int)) < (t224.length : Int) then (fuglemanlaw05_MembersRound.l0 k a0 (rd t224 (Int.tmod (wrap64 (a1)) (t224.length : Int))) 0 (rd t224 (Int.tmod (wrap64 (a1)) (t224.length : Int))) (t224.length : Int) 0) else (none)) else (none))))) else (some false))
theorem fuglemanlaw05_MembersRound.mono_l : ∀ k, (∀ y0 y1 y2 y3 y4 y5, LeO (fuglemanlaw05_MembersRound.l0 k y0 y1 y2 y3 y4 y5) (fuglemanlaw05_MembersRound.l0 (k + 1) y0 y1 y2 y3 y4 y5))
  | 0 => fun _ _ _ _ _ _ r h => by simp [fuglemanlaw05_MembersRound.l0] at h
  | k + 1 => by
    have ih0 := fuglemanlaw05_MembersRound.mono_l k
    · intro y0 y1 y2 y3 y4 y5
      unfold fuglemanlaw05_MembersRound.l0
      repeat' first
      | (with_reducible exact ih0 _ _ _ _ _ _)
      | (with_reducible exact fuglemanlaw05_awake.mono _)
      | (with_reducible exact members_List.mono _ _)
      | (with_reducible exact LeO.refl _)
      | (with_reducible exact LeO.none _)
      | (with_reducible refine LeO.ite ?_ ?_)
      | (with_reducible refine LeO.bind ?_ (fun _ => ?_))
      | exact ih0 _ _ _ _ _ _
      | exact fuglemanlaw05_awake.mono _
      | exact members_List.mono _ _
      | exact LeO.none _
      | refine LeO.ite ?_ ?_
      | refine LeO.bind ?_ (fun _ => ?_)
theorem fuglemanlaw05_MembersRound.mono : ∀ a0 a1 k, LeO (fuglemanlaw05_MembersRound.f k a0 a1) (fuglemanlaw05_MembersRound.f (k + 1) a0 a1) := by
  intro a0 a1 k
  have ih0 := fuglemanlaw05_MembersRound.mono_l k
  unfold fuglemanlaw05_MembersRound.f
  repeat' first
      | (with_reducible exact ih0 _ _ _ _ _ _)
      | (with_reducible exact fuglemanlaw05_awake.mono _)
      | (with_reducible exact members_List.mono _ _)
      | (with_reducible exact LeO.refl _)
      | (with_reducible exact LeO.none _)
      | (with_reducible refine LeO.ite ?_ ?_)
      | (with_reducible refine LeO.bind ?_ (fun _ => ?_))
      | exact ih0 _ _ _ _ _ _
      | exact fuglemanlaw05_awake.mono _
      | exact members_List.mono _ _
      | exact LeO.none _
      | refine LeO.ite ?_ ?_
      | refine LeO.bind ?_ (fun _ => ?_)
set_option maxHeartbeats 8000000 in
set_option maxRecDepth 100000 in
theorem fuglemanlaw05_MembersRound.calls (k : Nat) (a0 : Int) (a1 : Int) (r : Bool) (w : World) (h : fuglemanlaw05_MembersRound.f k a0 a1 = some r) (ht_ : Tabs w) :
    Calls Tryd.prog 5 #[.int .u32 a0, .int .u8 a1] w fun e w' => e = .returned (.bool r) ∧ Below w.heap.size w w' := by
  have HT_ := Aside0.mk ht_
  clear ht_
  have HB := Aside0.mk (Below.refl w.heap.size w)
  have H : ((fuglemanlaw05_awake.f k).bind fun t223 => (if t223 = true then ((members_List.f k a0).bind fun t224 => (if (t224.length : Int) < 2 then (some true) else (if (t224.length : Int) = 0 then (none) else (if 0 ≤ (Int.tmod (wrap64 (a1)) (t224.length : Int)) then (if (Int.tmod (wrap64 (a1)) (t224.length : Int)) < (t224.length : Int) then (fuglemanlaw05_MembersRound.l0 k a0 (rd t224 (Int.tmod (wrap64 (a1)) (t224.length : Int))) 0 (rd t224 (Int.tmod (wrap64 (a1)) (t224.length : Int))) (t224.length : Int) 0) else (none)) else (none))))) else (some false))) = some r := h
  clear h
  replace H := Option.bind_eq_some_iff.mp H
  obtain ⟨t223, A30, H⟩ := H
  replace H : (if t223 = true then ((members_List.f k a0).bind fun t224 => (if (t224.length : Int) < 2 then (some true) else (if (t224.length : Int) = 0 then (none) else (if 0 ≤ (Int.tmod (wrap64 (a1)) (t224.length : Int)) then (if (Int.tmod (wrap64 (a1)) (t224.length : Int)) < (t224.length : Int) then (fuglemanlaw05_MembersRound.l0 k a0 (rd t224 (Int.tmod (wrap64 (a1)) (t224.length : Int))) 0 (rd t224 (Int.tmod (wrap64 (a1)) (t224.length : Int))) (t224.length : Int) 0) else (none)) else (none))))) else (some false)) = some r := H
  have A3 := Aside0.mk A30
  clear A30
  by_cases c4 : t223 = true
  · subst c4
    have H1 : ((members_List.f k a0).bind fun t224 => (if (t224.length : Int) < 2 then (some true) else (if (t224.length : Int) = 0 then (none) else (if 0 ≤ (Int.tmod (wrap64 (a1)) (t224.length : Int)) then (if (Int.tmod (wrap64 (a1)) (t224.length : Int)) < (t224.length : Int) then (fuglemanlaw05_MembersRound.l0 k a0 (rd t224 (Int.tmod (wrap64 (a1)) (t224.length : Int))) 0 (rd t224 (Int.tmod (wrap64 (a1)) (t224.length : Int))) (t224.length : Int) 0) else (none)) else (none))))) = some r := by rw [if_pos rfl] at H; exact H
    clear H
    have H := H1
    clear H1
    replace H := Option.bind_eq_some_iff.mp H
    obtain ⟨t224, A50, H⟩ := H
    replace H : (if (t224.length : Int) < 2 then (some true) else (if (t224.length : Int) = 0 then (none) else (if 0 ≤ (Int.tmod (wrap64 (a1)) (t224.length : Int)) then (if (Int.tmod (wrap64 (a1)) (t224.length : Int)) < (t224.length : Int) then (fuglemanlaw05_MembersRound.l0 k a0 (rd t224 (Int.tmod (wrap64 (a1)) (t224.length : Int))) 0 (rd t224 (Int.tmod (wrap64 (a1)) (t224.length : Int))) (t224.length : Int) 0) else (none)) else (none)))) = some r := H
    have A5 := Aside0.mk A50
    clear A50
    by_cases c6 : (t224.length : Int) < 2
    · rw [if_pos c6] at H
      have c6b0 : decide ((t224.length : Int) < 2) = true := decide_eq_true c6
      have c6b1 : decide (t224.length < 2) = true := decide_eq_true (by omega)
      clear c6
      obtain rfl := Option.some.inj H
      go_enter Tryd.func5, Tryd.ntmps5
      go_wp2_with (first | ((with_reducible refine gate_callee (f := 8) rfl ?_); refine goesL_ (some 13) rfl rfl Tryd.func8 (by kernel_rfl) rfl #[] rfl (by (try simp only [List.map_toArray, List.map_cons, List.map_nil]); first | done | rfl | (simp only [List.length_drop, List.length_take]; rfl)) ?_; (with_reducible refine (fuglemanlaw05_awake.calls k  true _ A3.out ?tb).mono ?_); (case tb => (repeat (first | exact tabs_below HT_.out (by repeat (first | (with_reducible first | exact HB.out | apply below_alloc | apply pw_below_drewN | apply below_drew1) | exact HB.out)) | exact tabs_below HT_.out HB.out | (with_reducible refine tabs_alloc ?_ _) | (with_reducible refine tabs_drewN ?_ _) | (with_reducible refine tabs_drew ?_) | exact HT_.out))); rintro e w7 ⟨rfl, hb⟩; refine ⟨_, rfl, ?_⟩; have n0_ := Aside0.mk (below_step (by repeat (first | (with_reducible first | exact HB.out | apply below_alloc | apply pw_below_drewN | apply below_drew1) | exact HB.out)) hb); clear HB; have HB := n0_; clear n0_; (try clear hb); (try clear hb2); (try clear hk); (try clear hi)) | ((with_reducible refine gate_callee (f := 24) rfl ?_); refine goesL_ (some 16) rfl rfl Tryd.func24 (by kernel_rfl) rfl #[.int .u32 a0] rfl (by (try simp only [List.map_toArray, List.map_cons, List.map_nil]); first | done | rfl | (simp only [List.length_drop, List.length_take]; rfl)) ?_; (with_reducible refine (members_List.calls k a0 t224 _ A5.out ?tb).mono ?_); (case tb => (repeat (first | exact tabs_below HT_.out (by repeat (first | (with_reducible first | exact HB.out | apply below_alloc | apply pw_below_drewN | apply below_drew1) | exact HB.out)) | exact tabs_below HT_.out HB.out | (with_reducible refine tabs_alloc ?_ _) | (with_reducible refine tabs_drewN ?_ _) | (with_reducible refine tabs_drew ?_) | exact HT_.out))); rintro e w8 ⟨v225, rfl, ho0, hb⟩; refine ⟨_, rfl, ?_⟩; have n0_ := Aside0.mk (Kd.R_lower ho0 (below_size (by repeat (first | (with_reducible first | exact HB.out | apply below_alloc | apply pw_below_drewN | apply below_drew1) | exact HB.out)))); have n1_ := Aside0.mk (below_step (by repeat (first | (with_reducible first | exact HB.out | apply below_alloc | apply pw_below_drewN | apply below_drew1) | exact HB.out)) hb); clear HB; have HO226 := n0_; have HB := n1_; clear n0_ n1_; (try clear hb); (try clear hb2); (try clear hk); (try clear hi); (try clear ho0); obtain ⟨Ao9, co9, eo9⟩ := Kd.R_slice HO226.out; subst eo9))
      go_ret
      exact ⟨by first | rfl | (simp [errW_none, errW_some] <;> rfl) | (simp [*, errW_none, errW_some] <;> rfl), by repeat (first | (with_reducible first | exact HB.out | apply below_alloc | apply pw_below_drewN | apply below_drew1) | exact HB.out)⟩
    · rw [if_neg c6] at H
      have c6b0 : decide ((t224.length : Int) < 2) = false := decide_eq_false c6
      have c6b1 : decide (t224.length < 2) = false := decide_eq_false (by omega)
      clear c6
      by_cases c10 : (t224.length : Int) = 0
      · rw [if_pos c10] at H
        exact absurd H (by simp)
      · rw [if_neg c10] at H
        have c10b0 : ((t224.length : Int) == 0) = false := beq_eq_false_iff_ne.mpr c10
        have c10b1 : ((t224.length : Int) != 0) = true := bne_iff_ne.mpr c10
        have c10b2 : ¬ (t224 = []) := fun h_ => c10 (by rw [h_]; rfl)
        obtain ⟨ji11, hji11⟩ : ∃ j_ : Int, (Int.tmod (wrap64 (a1)) (t224.length : Int)) = j_ := ⟨_, rfl⟩
        replace H : (if 0 ≤ (ji11) then (if (ji11) < (t224.length : Int) then (fuglemanlaw05_MembersRound.l0 k a0 (rd t224 (ji11)) 0 (rd t224 (ji11)) (t224.length : Int) 0) else (none)) else (none)) = some r := by first | (rw [hji11] at H; exact H) | (simp only [hji11] at H ⊢; exact H)
        (try rw [hji11] at A3)
        (try rw [hji11] at A5)
        by_cases c12 : 0 ≤ (ji11)
        · rw [if_pos c12] at H
          have c12b0 : decide (0 ≤ (ji11)) = true := decide_eq_true c12
          clear c12
          by_cases c13 : (ji11) < (t224.length : Int)
          · rw [if_pos c13] at H
            have c13b0 : decide ((ji11) < (t224.length : Int)) = true := decide_eq_true c13
            clear c13
            have H' := Aside0.mk H
            clear H
            go_enter Tryd.func5, Tryd.ntmps5
            go_wp2_with (first | ((with_reducible refine gate_callee (f := 8) rfl ?_); refine goesL_ (some 13) rfl rfl Tryd.func8 (by kernel_rfl) rfl #[] rfl (by (try simp only [List.map_toArray, List.map_cons, List.map_nil]); first | done | rfl | (simp only [List.length_drop, List.length_take]; rfl)) ?_; (with_reducible refine (fuglemanlaw05_awake.calls k  true _ A3.out ?tb).mono ?_); (case tb => (repeat (first | exact tabs_below HT_.out (by repeat (first | (with_reducible first | exact HB.out | apply below_alloc | apply pw_below_drewN | apply below_drew1) | exact HB.out)) | exact tabs_below HT_.out HB.out | (with_reducible refine tabs_alloc ?_ _) | (with_reducible refine tabs_drewN ?_ _) | (with_reducible refine tabs_drew ?_) | exact HT_.out))); rintro e w14 ⟨rfl, hb⟩; refine ⟨_, rfl, ?_⟩; have n0_ := Aside0.mk (below_step (by repeat (first | (with_reducible first | exact HB.out | apply below_alloc | apply pw_below_drewN | apply below_drew1) | exact HB.out)) hb); clear HB; have HB := n0_; clear n0_; (try clear hb); (try clear hb2); (try clear hk); (try clear hi)) | ((with_reducible refine gate_callee (f := 24) rfl ?_); refine goesL_ (some 16) rfl rfl Tryd.func24 (by kernel_rfl) rfl #[.int .u32 a0] rfl (by (try simp only [List.map_toArray, List.map_cons, List.map_nil]); first | done | rfl | (simp only [List.length_drop, List.length_take]; rfl)) ?_; (with_reducible refine (members_List.calls k a0 t224 _ A5.out ?tb).mono ?_); (case tb => (repeat (first | exact tabs_below HT_.out (by repeat (first | (with_reducible first | exact HB.out | apply below_alloc | apply pw_below_drewN | apply below_drew1) | exact HB.out)) | exact tabs_below HT_.out HB.out | (with_reducible refine tabs_alloc ?_ _) | (with_reducible refine tabs_drewN ?_ _) | (with_reducible refine tabs_drew ?_) | exact HT_.out))); rintro e w15 ⟨v225, rfl, ho0, hb⟩; refine ⟨_, rfl, ?_⟩; have n0_ := Aside0.mk (Kd.R_lower ho0 (below_size (by repeat (first | (with_reducible first | exact HB.out | apply below_alloc | apply pw_below_drewN | apply below_drew1) | exact HB.out)))); have n1_ := Aside0.mk (below_step (by repeat (first | (with_reducible first | exact HB.out | apply below_alloc | apply pw_below_drewN | apply below_drew1) | exact HB.out)) hb); clear HB; have HO226 := n0_; have HB := n1_; clear n0_ n1_; (try clear hb); (try clear hb2); (try clear hk); (try clear hi); (try clear ho0); obtain ⟨Ao16, co16, eo16⟩ := Kd.R_slice HO226.out; subst eo16; have p227 : 0 ≤ ((ji11) : Int) := of_decide_eq_true (by first | (with_reducible assumption) | assumption); have q227 : (ji11) < (t224.length : Int) := of_decide_eq_true (by first | (with_reducible assumption) | assumption); obtain ⟨ad227, e227, hx227_0⟩ := Kd.at_int (Kd.R_reads' HO226.out).2.2 (ji11) p227 q227; cases e227; replace p227 := eq_true p227; replace q227 := eq_true q227))
            go_loopg [7, 8, 31] k (fun kq v7 v8 v31 w' => ∃ (x7_1 : Int) (x8_1 : Int) (x31_1 : Int), v7 = .int .u32 x7_1 ∧ v8 = .int .i64 x8_1 ∧ v31 = .int .i64 x31_1 ∧ Aside0 (fuglemanlaw05_MembersRound.l0 kq a0 (rd t224 (ji11)) x7_1 x8_1 (t224.length : Int) x31_1 = some r) ∧ Aside0 (kq ≤ k) ∧ Aside0 (Below w.heap.size w w'))
            case atStart => exact ⟨(0), (rd t224 (ji11)), (0), (by first | rfl | (simp; done) | (simp [*]; done)), (by first | rfl | (simp; done) | (simp only [← hji11] <;> (first | rfl | simp)) | (simp [*]; done)), (by first | rfl | (simp; done) | (simp [*]; done)), H', ⟨Nat.le_refl _⟩, ⟨by repeat (first | (with_reducible first | exact HB.out | apply below_alloc | apply pw_below_drewN | apply below_drew1) | exact HB.out)⟩⟩
            case round =>
              clear H'
              try clear c1
              try clear c2
              try clear p2
              try clear q2
              try clear hx2
              try clear c4
              try clear c5
              try clear c6
              try clear c6b0
              try clear c6b1
              try clear p6
              try clear c8
              try clear c10
              try clear c10b0
              try clear c10b1
              try clear c10b2
              try clear c12
              try clear c12b0
              try clear c13
              try clear c13b0
              try clear hx227_0
              try clear p227
              try clear q227
              obtain ⟨x7_1, x8_1, x31_1, rfl, rfl, rfl, HA, HK1, HB⟩ := hrel
              cases gk with
              | zero => exact absurd HA.out (by simp [fuglemanlaw05_MembersRound.l0])
              | succ k1 =>
                have H := HA.out
                clear HA
                simp only [fuglemanlaw05_MembersRound.l0] at H
                by_cases c17 : x31_1 < (t224.length : Int)
                · rw [if_pos c17] at H
                  have c17b0 : decide (x31_1 < (t224.length : Int)) = true := decide_eq_true c17
                  clear c17
                  replace H := Option.bind_eq_some_iff.mp H
                  obtain ⟨⟨t228, t229⟩, A180, H⟩ := H
                  replace H : ((members_Prev.f a0 t228).bind fun bt230 => (if t229 = true then (if bt230.2 = true then (if bt230.1 = x8_1 then ((members_Has.f x7_1 t228).bind fun t232 => (if t232 = true then (some false) else ((members_Between.f x8_1 t228).bind fun t233 => (if (Go.bits .and .u32 t233 a0) = 0 then ((members_With.f x7_1 t228).bind fun t234 => (fuglemanlaw05_MembersRound.l0 k1 a0 (rd t224 (ji11)) t234 t228 (t224.length : Int) (wrap64 (x31_1 + 1)))) else (some false))))) else (some false)) else (some false)) else (some false))) = some r := H
                  have A18 := Aside0.mk A180
                  clear A180
                  replace H := Option.bind_eq_some_iff.mp H
                  obtain ⟨⟨t230, t231⟩, A190, H⟩ := H
                  replace H : (if t229 = true then (if t231 = true then (if t230 = x8_1 then ((members_Has.f x7_1 t228).bind fun t232 => (if t232 = true then (some false) else ((members_Between.f x8_1 t228).bind fun t233 => (if (Go.bits .and .u32 t233 a0) = 0 then ((members_With.f x7_1 t228).bind fun t234 => (fuglemanlaw05_MembersRound.l0 k1 a0 (rd t224 (ji11)) t234 t228 (t224.length : Int) (wrap64 (x31_1 + 1)))) else (some false))))) else (some false)) else (some false)) else (some false)) = some r := H
                  have A19 := Aside0.mk A190
                  clear A190
                  by_cases c20 : t229 = true
                  · subst c20
                    have H1 : (if t231 = true then (if t230 = x8_1 then ((members_Has.f x7_1 t228).bind fun t232 => (if t232 = true then (some false) else ((members_Between.f x8_1 t228).bind fun t233 => (if (Go.bits .and .u32 t233 a0) = 0 then ((members_With.f x7_1 t228).bind fun t234 => (fuglemanlaw05_MembersRound.l0 k1 a0 (rd t224 (ji11)) t234 t228 (t224.length : Int) (wrap64 (x31_1 + 1)))) else (some false))))) else (some false)) else (some false)) = some r := by rw [if_pos rfl] at H; exact H
                    clear H
                    have H := H1
                    clear H1
                    by_cases c21 : t231 = true
                    · subst c21
                      have H1 : (if t230 = x8_1 then ((members_Has.f x7_1 t228).bind fun t232 => (if t232 = true then (some false) else ((members_Between.f x8_1 t228).bind fun t233 => (if (Go.bits .and .u32 t233 a0) = 0 then ((members_With.f x7_1 t228).bind fun t234 => (fuglemanlaw05_MembersRound.l0 k1 a0 (rd t224 (ji11)) t234 t228 (t224.length : Int) (wrap64 (x31_1 + 1)))) else (some false))))) else (some false)) = some r := by rw [if_pos rfl] at H; exact H
                      clear H
                      have H := H1
                      clear H1
                      by_cases c22 : t230 = x8_1
                      · rw [if_pos c22] at H
                        have c22b0 : (t230 == x8_1) = true := beq_iff_eq.mpr c22
                        have c22b1 : (t230 != x8_1) = false := bne_eq_false_iff_eq.mpr c22
                        clear c22
                        replace H := Option.bind_eq_some_iff.mp H
                        obtain ⟨t232, A230, H⟩ := H
                        replace H : (if t232 = true then (some false) else ((members_Between.f x8_1 t228).bind fun t233 => (if (Go.bits .and .u32 t233 a0) = 0 then ((members_With.f x7_1 t228).bind fun t234 => (fuglemanlaw05_MembersRound.l0 k1 a0 (rd t224 (ji11)) t234 t228 (t224.length : Int) (wrap64 (x31_1 + 1)))) else (some false)))) = some r := H
                        have A23 := Aside0.mk A230
                        clear A230
                        by_cases c24 : t232 = true
                        · subst c24
                          have H1 : (some false) = some r := by rw [if_pos rfl] at H; exact H
                          clear H
                          have H := H1
                          clear H1
                          obtain rfl := Option.some.inj H
                          go_wp2_with (first | ((with_reducible refine gate_callee (f := 9) rfl ?_); refine goesL_ (some 36) rfl rfl Tryd.func9 (by kernel_rfl) rfl #[.int .u32 a0, .int .i64 x8_1] rfl (by (try simp only [List.map_toArray, List.map_cons, List.map_nil]); first | done | rfl | (simp only [List.length_drop, List.length_take]; rfl)) ?_; (with_reducible refine (members_Next.calls a0 x8_1 t228 true _ A18.out ?tb).mono ?_); (case tb => (repeat (first | exact tabs_below HT_.out HB.out | (with_reducible refine tabs_alloc ?_ _) | (with_reducible refine tabs_drewN ?_ _) | (with_reducible refine tabs_drew ?_) | exact HT_.out))); rintro e w' ⟨rfl, ⟨nd, rfl⟩⟩; refine ⟨_, rfl, ?_⟩) | ((with_reducible refine gate_callee (f := 10) rfl ?_); refine goesL_ (some 42) rfl rfl Tryd.func10 (by kernel_rfl) rfl #[.int .u32 a0, .int .i64 t228] rfl (by (try simp only [List.map_toArray, List.map_cons, List.map_nil]); first | done | rfl | (simp only [List.length_drop, List.length_take]; rfl)) ?_; (with_reducible refine (members_Prev.calls a0 t228 t230 true _ A19.out).mono ?_); rintro e w' ⟨rfl, ⟨nd, rfl⟩⟩; refine ⟨_, rfl, ?_⟩) | (go_at_call 17; (with_reducible refine (members_Has.calls x7_1 t228 true _ A23.out).mono ?_); rintro e w' ⟨rfl, ⟨nd, rfl⟩⟩))
                          go_ret
                          exact ⟨by first | rfl | (simp [errW_none, errW_some] <;> rfl) | (simp only [← hji11]; first | rfl | (simp [errW_none, errW_some] <;> rfl)) | (simp [*, errW_none, errW_some] <;> rfl), by repeat (first | (with_reducible first | exact HB.out | apply below_alloc | apply pw_below_drewN | apply below_drew1) | exact HB.out)⟩
                        · replace c24 := Bool.eq_false_iff.mpr c24
                          subst c24
                          have H1 : ((members_Between.f x8_1 t228).bind fun t233 => (if (Go.bits .and .u32 t233 a0) = 0 then ((members_With.f x7_1 t228).bind fun t234 => (fuglemanlaw05_MembersRound.l0 k1 a0 (rd t224 (ji11)) t234 t228 (t224.length : Int) (wrap64 (x31_1 + 1)))) else (some false))) = some r := by rw [if_neg (show ¬ (false = true) by decide)] at H; exact H
                          clear H
                          have H := H1
                          clear H1
                          replace H := Option.bind_eq_some_iff.mp H
                          obtain ⟨t233, A250, H⟩ := H
                          replace H : (if (Go.bits .and .u32 t233 a0) = 0 then ((members_With.f x7_1 t228).bind fun t234 => (fuglemanlaw05_MembersRound.l0 k1 a0 (rd t224 (ji11)) t234 t228 (t224.length : Int) (wrap64 (x31_1 + 1)))) else (some false)) = some r := H
                          have A25 := Aside0.mk A250
                          clear A250
                          by_cases c26 : (Go.bits .and .u32 t233 a0) = 0
                          · rw [if_pos c26] at H
                            have c26b0 : ((Go.bits .and .u32 t233 a0) == 0) = true := beq_iff_eq.mpr c26
                            have c26b1 : ((Go.bits .and .u32 t233 a0) != 0) = false := bne_eq_false_iff_eq.mpr c26
                            clear c26
                            replace H := Option.bind_eq_some_iff.mp H
                            obtain ⟨t234, A270, H⟩ := H
                            replace H : (fuglemanlaw05_MembersRound.l0 k1 a0 (rd t224 (ji11)) t234 t228 (t224.length : Int) (wrap64 (x31_1 + 1))) = some r := H
                            have A27 := Aside0.mk A270
                            clear A270
                            have H' := Aside0.mk H
                            clear H
                            go_wp2_with (first | ((with_reducible refine gate_callee (f := 9) rfl ?_); refine goesL_ (some 36) rfl rfl Tryd.func9 (by kernel_rfl) rfl #[.int .u32 a0, .int .i64 x8_1] rfl (by (try simp only [List.map_toArray, List.map_cons, List.map_nil]); first | done | rfl | (simp only [List.length_drop, List.length_take]; rfl)) ?_; (with_reducible refine (members_Next.calls a0 x8_1 t228 true _ A18.out ?tb).mono ?_); (case tb => (repeat (first | exact tabs_below HT_.out (by repeat (first | (with_reducible first | exact HB.out | apply below_alloc | apply pw_below_drewN | apply below_drew1) | exact HB.out)) | exact tabs_below HT_.out HB.out | (with_reducible refine tabs_alloc ?_ _) | (with_reducible refine tabs_drewN ?_ _) | (with_reducible refine tabs_drew ?_) | exact HT_.out))); rintro e w' ⟨rfl, ⟨nd, rfl⟩⟩; refine ⟨_, rfl, ?_⟩) | ((with_reducible refine gate_callee (f := 10) rfl ?_); refine goesL_ (some 42) rfl rfl Tryd.func10 (by kernel_rfl) rfl #[.int .u32 a0, .int .i64 t228] rfl (by (try simp only [List.map_toArray, List.map_cons, List.map_nil]); first | done | rfl | (simp only [List.length_drop, List.length_take]; rfl)) ?_; (with_reducible refine (members_Prev.calls a0 t228 t230 true _ A19.out).mono ?_); rintro e w' ⟨rfl, ⟨nd, rfl⟩⟩; refine ⟨_, rfl, ?_⟩) | (go_at_call 17; (with_reducible refine (members_Has.calls x7_1 t228 false _ A23.out).mono ?_); rintro e w' ⟨rfl, ⟨nd, rfl⟩⟩) | (go_at_call 29; (with_reducible refine (members_Between.calls x8_1 t228 t233 _ A25.out).mono ?_); rintro e w28 ⟨rfl, hb⟩; have n0_ := Aside0.mk (below_step (by repeat (first | (with_reducible first | exact HB.out | apply below_alloc | apply pw_below_drewN | apply below_drew1) | exact HB.out)) hb); clear HB; have HB := n0_; clear n0_; (try clear hb); (try clear hb2); (try clear hk); (try clear hi)) | ((with_reducible refine gate_callee (f := 19) rfl ?_); refine goesL_ (some 71) rfl rfl Tryd.func19 (by kernel_rfl) rfl #[.int .u32 x7_1, .int .i64 t228] rfl (by (try simp only [List.map_toArray, List.map_cons, List.map_nil]); first | done | rfl | (simp only [List.length_drop, List.length_take]; rfl)) ?_; (with_reducible refine (members_With.calls x7_1 t228 t234 _ A27.out).mono ?_); rintro e w' ⟨rfl, ⟨nd, rfl⟩⟩; refine ⟨_, rfl, ?_⟩))
                            go_roundg k1
                            case measure => have := HK1.out; omega
                            case rel => exact ⟨(t234), (t228), (wrap64 (x31_1 + 1)), (by first | rfl | (simp; done) | (simp [*]; done)), (by first | rfl | (simp; done) | (simp [*]; done)), (by first | rfl | (simp; done) | (simp [*]; done)), H', ⟨by have := HK1.out; omega⟩, ⟨by repeat (first | (with_reducible first | exact HB.out | apply below_alloc | apply pw_below_drewN | apply below_drew1) | exact HB.out)⟩⟩
                          · rw [if_neg c26] at H
                            have c26b0 : ((Go.bits .and .u32 t233 a0) == 0) = false := beq_eq_false_iff_ne.mpr c26
                            have c26b1 : ((Go.bits .and .u32 t233 a0) != 0) = true := bne_iff_ne.mpr c26
                            obtain rfl := Option.some.inj H
                            go_wp2_with (first | ((with_reducible refine gate_callee (f := 9) rfl ?_); refine goesL_ (some 36) rfl rfl Tryd.func9 (by kernel_rfl) rfl #[.int .u32 a0, .int .i64 x8_1] rfl (by (try simp only [List.map_toArray, List.map_cons, List.map_nil]); first | done | rfl | (simp only [List.length_drop, List.length_take]; rfl)) ?_; (with_reducible refine (members_Next.calls a0 x8_1 t228 true _ A18.out ?tb).mono ?_); (case tb => (repeat (first | exact tabs_below HT_.out (by repeat (first | (with_reducible first | exact HB.out | apply below_alloc | apply pw_below_drewN | apply below_drew1) | exact HB.out)) | exact tabs_below HT_.out HB.out | (with_reducible refine tabs_alloc ?_ _) | (with_reducible refine tabs_drewN ?_ _) | (with_reducible refine tabs_drew ?_) | exact HT_.out))); rintro e w' ⟨rfl, ⟨nd, rfl⟩⟩; refine ⟨_, rfl, ?_⟩) | ((with_reducible refine gate_callee (f := 10) rfl ?_); refine goesL_ (some 42) rfl rfl Tryd.func10 (by kernel_rfl) rfl #[.int .u32 a0, .int .i64 t228] rfl (by (try simp only [List.map_toArray, List.map_cons, List.map_nil]); first | done | rfl | (simp only [List.length_drop, List.length_take]; rfl)) ?_; (with_reducible refine (members_Prev.calls a0 t228 t230 true _ A19.out).mono ?_); rintro e w' ⟨rfl, ⟨nd, rfl⟩⟩; refine ⟨_, rfl, ?_⟩) | (go_at_call 17; (with_reducible refine (members_Has.calls x7_1 t228 false _ A23.out).mono ?_); rintro e w' ⟨rfl, ⟨nd, rfl⟩⟩) | (go_at_call 29; (with_reducible refine (members_Between.calls x8_1 t228 t233 _ A25.out).mono ?_); rintro e w29 ⟨rfl, hb⟩; have n0_ := Aside0.mk (below_step (by repeat (first | (with_reducible first | exact HB.out | apply below_alloc | apply pw_below_drewN | apply below_drew1) | exact HB.out)) hb); clear HB; have HB := n0_; clear n0_; (try clear hb); (try clear hb2); (try clear hk); (try clear hi)))
                            go_ret
                            exact ⟨by first | rfl | (simp [errW_none, errW_some] <;> rfl) | (simp only [← hji11]; first | rfl | (simp [errW_none, errW_some] <;> rfl)) | (simp [*, errW_none, errW_some] <;> rfl), by repeat (first | (with_reducible first | exact HB.out | apply below_alloc | apply pw_below_drewN | apply below_drew1) | exact HB.out)⟩
                      · rw [if_neg c22] at H
                        have c22b0 : (t230 == x8_1) = false := beq_eq_false_iff_ne.mpr c22
                        have c22b1 : (t230 != x8_1) = true := bne_iff_ne.mpr c22
                        obtain rfl := Option.some.inj H
                        go_wp2_with (first | ((with_reducible refine gate_callee (f := 9) rfl ?_); refine goesL_ (some 36) rfl rfl Tryd.func9 (by kernel_rfl) rfl #[.int .u32 a0, .int .i64 x8_1] rfl (by (try simp only [List.map_toArray, List.map_cons, List.map_nil]); first | done | rfl | (simp only [List.length_drop, List.length_take]; rfl)) ?_; (with_reducible refine (members_Next.calls a0 x8_1 t228 true _ A18.out ?tb).mono ?_); (case tb => (repeat (first | exact tabs_below HT_.out HB.out | (with_reducible refine tabs_alloc ?_ _) | (with_reducible refine tabs_drewN ?_ _) | (with_reducible refine tabs_drew ?_) | exact HT_.out))); rintro e w' ⟨rfl, ⟨nd, rfl⟩⟩; refine ⟨_, rfl, ?_⟩) | ((with_reducible refine gate_callee (f := 10) rfl ?_); refine goesL_ (some 42) rfl rfl Tryd.func10 (by kernel_rfl) rfl #[.int .u32 a0, .int .i64 t228] rfl (by (try simp only [List.map_toArray, List.map_cons, List.map_nil]); first | done | rfl | (simp only [List.length_drop, List.length_take]; rfl)) ?_; (with_reducible refine (members_Prev.calls a0 t228 t230 true _ A19.out).mono ?_); rintro e w' ⟨rfl, ⟨nd, rfl⟩⟩; refine ⟨_, rfl, ?_⟩))
                        go_ret
                        exact ⟨by first | rfl | (simp [errW_none, errW_some] <;> rfl) | (simp only [← hji11]; first | rfl | (simp [errW_none, errW_some] <;> rfl)) | (simp [*, errW_none, errW_some] <;> rfl), by repeat (first | (with_reducible first | exact HB.out | apply below_alloc | apply pw_below_drewN | apply below_drew1) | exact HB.out)⟩
                    · replace c21 := Bool.eq_false_iff.mpr c21
                      subst c21
                      have H1 : (some false) = some r := by rw [if_neg (show ¬ (false = true) by decide)] at H; exact H
                      clear H
                      have H := H1
                      clear H1
                      obtain rfl := Option.some.inj H
                      go_wp2_with (first | ((with_reducible refine gate_callee (f := 9) rfl ?_); refine goesL_ (some 36) rfl rfl Tryd.func9 (by kernel_rfl) rfl #[.int .u32 a0, .int .i64 x8_1] rfl (by (try simp only [List.map_toArray, List.map_cons, List.map_nil]); first | done | rfl | (simp only [List.length_drop, List.length_take]; rfl)) ?_; (with_reducible refine (members_Next.calls a0 x8_1 t228 true _ A18.out ?tb).mono ?_); (case tb => (repeat (first | exact tabs_below HT_.out HB.out | (with_reducible refine tabs_alloc ?_ _) | (with_reducible refine tabs_drewN ?_ _) | (with_reducible refine tabs_drew ?_) | exact HT_.out))); rintro e w' ⟨rfl, ⟨nd, rfl⟩⟩; refine ⟨_, rfl, ?_⟩) | ((with_reducible refine gate_callee (f := 10) rfl ?_); refine goesL_ (some 42) rfl rfl Tryd.func10 (by kernel_rfl) rfl #[.int .u32 a0, .int .i64 t228] rfl (by (try simp only [List.map_toArray, List.map_cons, List.map_nil]); first | done | rfl | (simp only [List.length_drop, List.length_take]; rfl)) ?_; (with_reducible refine (members_Prev.calls a0 t228 t230 false _ A19.out).mono ?_); rintro e w' ⟨rfl, ⟨nd, rfl⟩⟩; refine ⟨_, rfl, ?_⟩))
                      go_ret
                      exact ⟨by first | rfl | (simp [errW_none, errW_some] <;> rfl) | (simp only [← hji11]; first | rfl | (simp [errW_none, errW_some] <;> rfl)) | (simp [*, errW_none, errW_some] <;> rfl), by repeat (first | (with_reducible first | exact HB.out | apply below_alloc | apply pw_below_drewN | apply below_drew1) | exact HB.out)⟩
                  · replace c20 := Bool.eq_false_iff.mpr c20
                    subst c20
                    have H1 : (some false) = some r := by rw [if_neg (show ¬ (false = true) by decide)] at H; exact H
                    clear H
                    have H := H1
                    clear H1
                    obtain rfl := Option.some.inj H
                    go_wp2_with (first | ((with_reducible refine gate_callee (f := 9) rfl ?_); refine goesL_ (some 36) rfl rfl Tryd.func9 (by kernel_rfl) rfl #[.int .u32 a0, .int .i64 x8_1] rfl (by (try simp only [List.map_toArray, List.map_cons, List.map_nil]); first | done | rfl | (simp only [List.length_drop, List.length_take]; rfl)) ?_; (with_reducible refine (members_Next.calls a0 x8_1 t228 false _ A18.out ?tb).mono ?_); (case tb => (repeat (first | exact tabs_below HT_.out HB.out | (with_reducible refine tabs_alloc ?_ _) | (with_reducible refine tabs_drewN ?_ _) | (with_reducible refine tabs_drew ?_) | exact HT_.out))); rintro e w' ⟨rfl, ⟨nd, rfl⟩⟩; refine ⟨_, rfl, ?_⟩) | ((with_reducible refine gate_callee (f := 10) rfl ?_); refine goesL_ (some 42) rfl rfl Tryd.func10 (by kernel_rfl) rfl #[.int .u32 a0, .int .i64 t228] rfl (by (try simp only [List.map_toArray, List.map_cons, List.map_nil]); first | done | rfl | (simp only [List.length_drop, List.length_take]; rfl)) ?_; (with_reducible refine (members_Prev.calls a0 t228 t230 t231 _ A19.out).mono ?_); rintro e w' ⟨rfl, ⟨nd, rfl⟩⟩; refine ⟨_, rfl, ?_⟩))
                    go_ret
                    exact ⟨by first | rfl | (simp [errW_none, errW_some] <;> rfl) | (simp only [← hji11]; first | rfl | (simp [errW_none, errW_some] <;> rfl)) | (simp [*, errW_none, errW_some] <;> rfl), by repeat (first | (with_reducible first | exact HB.out | apply below_alloc | apply pw_below_drewN | apply below_drew1) | exact HB.out)⟩
                · rw [if_neg c17] at H
                  have c17b0 : decide (x31_1 < (t224.length : Int)) = false := decide_eq_false c17
                  clear c17
                  by_cases c30 : x8_1 = (rd t224 (ji11))
                  · rw [if_pos c30] at H
                    have c30b0 : (x8_1 == (rd t224 (ji11))) = true := beq_iff_eq.mpr c30
                    have c30b1 : (x8_1 != (rd t224 (ji11))) = false := bne_eq_false_iff_eq.mpr c30
                    clear c30
                    obtain rfl := Option.some.inj H
                    go_wp2
                    go_ret
                    exact ⟨by first | rfl | (simp [errW_none, errW_some] <;> rfl) | (simp only [← hji11]; first | rfl | (simp [errW_none, errW_some] <;> rfl)) | (simp [*, errW_none, errW_some] <;> rfl), by repeat (first | (with_reducible first | exact HB.out | apply below_alloc | apply pw_below_drewN | apply below_drew1) | exact HB.out)⟩
                  · rw [if_neg c30] at H
                    have c30b0 : (x8_1 == (rd t224 (ji11))) = false := beq_eq_false_iff_ne.mpr c30
                    have c30b1 : (x8_1 != (rd t224 (ji11))) = true := bne_iff_ne.mpr c30
                    obtain rfl := Option.some.inj H
                    go_wp2
                    go_ret
                    exact ⟨by first | rfl | (simp [errW_none, errW_some] <;> rfl) | (simp only [← hji11]; first | rfl | (simp [errW_none, errW_some] <;> rfl)) | (simp [*, errW_none, errW_some] <;> rfl), by repeat (first | (with_reducible first | exact HB.out | apply below_alloc | apply pw_below_drewN | apply below_drew1) | exact HB.out)⟩
          · rw [if_neg c13] at H
            exact absurd H (by simp)
        · rw [if_neg c12] at H
          exact absurd H (by simp)
  · replace c4 := Bool.eq_false_iff.mpr c4
    subst c4
    have H1 : (some false) = some r := by rw [if_neg (show ¬ (false = true) by decide)] at H; exact H
    clear H
    have H := H1
    clear H1
    obtain rfl := Option.some.inj H
    go_enter Tryd.func5, Tryd.ntmps5
    go_wp2_with (first | ((with_reducible refine gate_callee (f := 8) rfl ?_); refine goesL_ (some 13) rfl rfl Tryd.func8 (by kernel_rfl) rfl #[] rfl (by (try simp only [List.map_toArray, List.map_cons, List.map_nil]); first | done | rfl | (simp only [List.length_drop, List.length_take]; rfl)) ?_; (with_reducible refine (fuglemanlaw05_awake.calls k  false _ A3.out ?tb).mono ?_); (case tb => (repeat (first | exact tabs_below HT_.out (by repeat (first | (with_reducible first | exact HB.out | apply below_alloc | apply pw_below_drewN | apply below_drew1) | exact HB.out)) | exact tabs_below HT_.out HB.out | (with_reducible refine tabs_alloc ?_ _) | (with_reducible refine tabs_drewN ?_ _) | (with_reducible refine tabs_drew ?_) | exact HT_.out))); rintro e w31 ⟨rfl, hb⟩; refine ⟨_, rfl, ?_⟩; have n0_ := Aside0.mk (below_step (by repeat (first | (with_reducible first | exact HB.out | apply below_alloc | apply pw_below_drewN | apply below_drew1) | exact HB.out)) hb); clear HB; have HB := n0_; clear n0_; (try clear hb); (try clear hb2); (try clear hk); (try clear hi)))
    go_ret
    exact ⟨by first | rfl | (simp [errW_none, errW_some] <;> rfl) | (simp [*, errW_none, errW_some] <;> rfl), by repeat (first | (with_reducible first | exact HB.out | apply below_alloc | apply pw_below_drewN | apply below_drew1) | exact HB.out)⟩

/-- THE ONE PURE STATEMENT of fuglemanlaw05_MembersRound: yours. -/
def fuglemanlaw05_MembersRound.Pure : Prop := ∀ (a0 : Int) (a1 : Int), (Lit.int .u32 a0).wf = true → (Lit.int .u8 a1).wf = true → ∃ k, fuglemanlaw05_MembersRound.f k a0 a1 = some true
/-! ### fuglemanref05_Between: function 30 -/
mutual
def fuglemanref05_Between.j0 : Nat → Int → Int → Bool → Option (Int)
  | 0, _, _, _ => none
  | k + 1, x0, x1, x20 => if x20 = true then (some 0) else (fuglemanref05_Between.l0 k x0 x1 0 (Int.tmod (wrap64 (x0 + 1)) 32))
def fuglemanref05_Between.l0 : Nat → Int → Int → Int → Int → Option (Int)
  | 0, _, _, _, _ => none
  | k + 1, x0, x1, x5, x6 => if x6 = x1 then (some x5) else (if x6 = x0 then (some x5) else ((fuglemanref05_With.f k x5 x6).bind fun t235 => (fuglemanref05_Between.l0 k x0 x1 t235 (Int.tmod (wrap64 (x6 + 1)) 32))))
end
def fuglemanref05_Between.f (k : Nat) (a0 : Int) (a1 : Int) : Option (Int) := if a0 < 0 then (fuglemanref05_Between.j0 k a0 a1 true) else (if a0 > 31 then (fuglemanref05_Between.j0 k a0 a1 true) else (if a1 < 0 then (fuglemanref05_Between.j0 k a0 a1 true) else (fuglemanref05_Between.j0 k a0 a1 (decide (a1 > 31)))))
theorem fuglemanref05_Between.mono_l : ∀ k, (∀ y0 y1 y2, LeO (fuglemanref05_Between.j0 k y0 y1 y2) (fuglemanref05_Between.j0 (k + 1) y0 y1 y2)) ∧ (∀ y0 y1 y2 y3, LeO (fuglemanref05_Between.l0 k y0 y1 y2 y3) (fuglemanref05_Between.l0 (k + 1) y0 y1 y2 y3))
  | 0 => ⟨fun _ _ _ r h => by simp [fuglemanref05_Between.j0] at h, fun _ _ _ _ r h => by simp [fuglemanref05_Between.l0] at h⟩
  | k + 1 => by
    obtain ⟨ih0, ih1⟩ := fuglemanref05_Between.mono_l k
    refine ⟨?_, ?_⟩
    · intro y0 y1 y2
      unfold fuglemanref05_Between.j0
      repeat' first
      | (with_reducible exact ih0 _ _ _)
      | (with_reducible exact ih1 _ _ _ _)
      | (with_reducible exact fuglemanref05_With.mono _ _ _)
      | (with_reducible exact LeO.refl _)
      | (with_reducible exact LeO.none _)
      | (with_reducible refine LeO.ite ?_ ?_)
      | (with_reducible refine LeO.bind ?_ (fun _ => ?_))
      | exact ih0 _ _ _
      | exact ih1 _ _ _ _
      | exact fuglemanref05_With.mono _ _ _
      | exact LeO.none _
      | refine LeO.ite ?_ ?_
      | refine LeO.bind ?_ (fun _ => ?_)
    · intro y0 y1 y2 y3
      unfold fuglemanref05_Between.l0
      repeat' first
      | (with_reducible exact ih0 _ _ _)
      | (with_reducible exact ih1 _ _ _ _)
      | (with_reducible exact fuglemanref05_With.mono _ _ _)
      | (with_reducible exact LeO.refl _)
      | (with_reducible exact LeO.none _)
      | (with_reducible refine LeO.ite ?_ ?_)
      | (with_reducible refine LeO.bind ?_ (fun _ => ?_))
      | exact ih0 _ _ _
      | exact ih1 _ _ _ _
      | exact fuglemanref05_With.mono _ _ _
      | exact LeO.none _
      | refine LeO.ite ?_ ?_
      | refine LeO.bind ?_ (fun _ => ?_)
theorem fuglemanref05_Between.mono : ∀ a0 a1 k, LeO (fuglemanref05_Between.f k a0 a1) (fuglemanref05_Between.f (k + 1) a0 a1) := by
  intro a0 a1 k
  obtain ⟨ih0, ih1⟩ := fuglemanref05_Between.mono_l k
  unfold fuglemanref05_Between.f
  repeat' first
      | (with_reducible exact ih0 _ _ _)
      | (with_reducible exact ih1 _ _ _ _)
      | (with_reducible exact fuglemanref05_With.mono _ _ _)
      | (with_reducible exact LeO.refl _)
      | (with_reducible exact LeO.none _)
      | (with_reducible refine LeO.ite ?_ ?_)
      | (with_reducible refine LeO.bind ?_ (fun _ => ?_))
      | exact ih0 _ _ _
      | exact ih1 _ _ _ _
      | exact fuglemanref05_With.mono _ _ _
      | exact LeO.none _
      | refine LeO.ite ?_ ?_
      | refine LeO.bind ?_ (fun _ => ?_)
set_option maxHeartbeats 8000000 in
set_option maxRecDepth 100000 in
theorem fuglemanref05_Between.calls (k : Nat) (a0 : Int) (a1 : Int) (r : Int) (w : World) (h : fuglemanref05_Between.f k a0 a1 = some r) :
    Calls Tryd.prog 30 #[.int .i64 a0, .int .i64 a1] w fun e w' => e = .returned (.int .u32 r) ∧ Drawn0 w w' := by
  have H : (if a0 < 0 then (fuglemanref05_Between.j0 k a0 a1 true) else (if a0 > 31 then (fuglemanref05_Between.j0 k a0 a1 true) else (if a1 < 0 then (fuglemanref05_Between.j0 k a0 a1 true) else (fuglemanref05_Between.j0 k a0 a1 (decide (a1 > 31)))))) = some r := h
  clear h
  have HC3 := Aside0.mk H
  clear H
  go_enter Tryd.func30, Tryd.ntmps30
  go_upto_region 1 with (fail)
  go_cut [20] (fun v20 wc => ∃ (kq : Nat) (x20_2 : Bool), v20 = .bool x20_2 ∧ Aside0 (fuglemanref05_Between.j0 kq a0 a1 x20_2 = some r) ∧ Aside0 (kq ≤ k) ∧ Drawn0 w wc)
  case first =>
    have H := HC3.out
    clear HC3
    by_cases c4 : a0 < 0
    · rw [if_pos c4] at H
      have c4b0 : decide (a0 < 0) = true := decide_eq_true c4
      clear c4
      (first | rw [c4b0] | (simp only [i64_w, i32_w]; rw [c4b0]) | skip)
      have H' := Aside0.mk H
      clear H
      go_wp2
      go_meet
      case rel => exact ⟨_, (true), (by first | rfl | (simp; done) | (simp [*]; done)), H', ⟨by first | omega | exact Nat.le_refl _⟩, by repeat (first | exact Drawn0.refl _ | apply Drawn0.step)⟩
    · rw [if_neg c4] at H
      have c4b0 : decide (a0 < 0) = false := decide_eq_false c4
      clear c4
      (first | rw [c4b0] | (simp only [i64_w, i32_w]; rw [c4b0]) | skip)
      by_cases c5 : a0 > 31
      · rw [if_pos c5] at H
        have c5b0 : decide (31 < a0) = true := decide_eq_true c5
        clear c5
        have H' := Aside0.mk H
        clear H
        go_wp2
        go_meet
        case rel => exact ⟨_, (true), (by first | rfl | (simp; done) | (simp [*]; done)), H', ⟨by first | omega | exact Nat.le_refl _⟩, by repeat (first | exact Drawn0.refl _ | apply Drawn0.step)⟩
      · rw [if_neg c5] at H
        have c5b0 : decide (31 < a0) = false := decide_eq_false c5
        clear c5
        by_cases c6 : a1 < 0
        · rw [if_pos c6] at H
          have c6b0 : decide (a1 < 0) = true := decide_eq_true c6
          clear c6
          have H' := Aside0.mk H
          clear H
          go_wp2
          go_meet
          case rel => exact ⟨_, (true), (by first | rfl | (simp; done) | (simp [*]; done)), H', ⟨by first | omega | exact Nat.le_refl _⟩, by repeat (first | exact Drawn0.refl _ | apply Drawn0.step)⟩
        · rw [if_neg c6] at H
          have c6b0 : decide (a1 < 0) = false := decide_eq_false c6
          clear c6
          have H' := Aside0.mk H
          clear H
          go_wp2
          go_meet
          case rel => exact ⟨_, (decide (a1 > 31)), (by first | rfl | (simp; done) | (simp [*]; done)), H', ⟨by first | omega | exact Nat.le_refl _⟩, by repeat (first | exact Drawn0.refl _ | apply Drawn0.step)⟩
  case rest =>
    clear HC3
    try clear p2
    try clear c3
    try clear c4
    try clear c4b0
    try clear c5
    try clear c5b0
    try clear c6
    try clear c6b0
    obtain ⟨kq, x20_2, rfl, HA, HJ2, ⟨mc2, rfl⟩⟩ := hcut
    cases kq with
    | zero => exact absurd HA.out (by simp [fuglemanref05_Between.j0])
    | succ kj2 =>
      have H := HA.out
      clear HA
      simp only [fuglemanref05_Between.j0] at H
      by_cases c7 : x20_2 = true
      · subst c7
        have H1 : (some 0) = some r := by rw [if_pos rfl] at H; exact H
        clear H
        have H := H1
        clear H1
        obtain rfl := Option.some.inj H
        go_wp2
        go_ret
        exact ⟨by first | rfl | (simp; done) | (simp [*]; done), by repeat (first | exact Drawn0.refl _ | apply Drawn0.step)⟩
      · replace c7 := Bool.eq_false_iff.mpr c7
        subst c7
        have H1 : (fuglemanref05_Between.l0 kj2 a0 a1 0 (Int.tmod (wrap64 (a0 + 1)) 32)) = some r := by rw [if_neg (show ¬ (false = true) by decide)] at H; exact H
        clear H
        have H := H1
        clear H1
        have H' := Aside0.mk H
        clear H
        go_wp2
        go_loopg [5, 6] kj2 (fun kq v5 v6 w' => ∃ (x5_2 : Int) (x6_2 : Int), v5 = .int .u32 x5_2 ∧ v6 = .int .i64 x6_2 ∧ Aside0 (fuglemanref05_Between.l0 kq a0 a1 x5_2 x6_2 = some r) ∧ Aside0 (kq ≤ kj2) ∧ Drawn0 w w')
        case atStart => exact ⟨(0), (Int.tmod (wrap64 (a0 + 1)) 32), (by first | rfl | (simp; done) | (simp [*]; done)), (by first | rfl | (simp; done) | (simp [*]; done)), H', ⟨Nat.le_refl _⟩, by repeat (first | exact Drawn0.refl _ | apply Drawn0.step)⟩
        case round =>
          clear H'
          try clear c2
          try clear p2
          try clear c3
          try clear c4
          try clear c4b0
          try clear c5
          try clear c5b0
          try clear c6
          try clear c6b0
          try clear p6
          try clear c7
          try clear p2
          obtain ⟨x5_2, x6_2, rfl, rfl, HA, HK2, ⟨m2, rfl⟩⟩ := hrel
          cases gk with
          | zero => exact absurd HA.out (by simp [fuglemanref05_Between.l0])
          | succ k2 =>
            have H := HA.out
            clear HA
            simp only [fuglemanref05_Between.l0] at H
            by_cases c8 : x6_2 = a1
            · rw [if_pos c8] at H
              have c8b0 : (x6_2 == a1) = true := beq_iff_eq.mpr c8
              have c8b1 : (x6_2 != a1) = false := bne_eq_false_iff_eq.mpr c8
              clear c8
              obtain rfl := Option.some.inj H
              go_wp2
              go_ret
              exact ⟨by first | rfl | (simp; done) | (simp [*]; done), by repeat (first | exact Drawn0.refl _ | apply Drawn0.step)⟩
            · rw [if_neg c8] at H
              have c8b0 : (x6_2 == a1) = false := beq_eq_false_iff_ne.mpr c8
              have c8b1 : (x6_2 != a1) = true := bne_iff_ne.mpr c8
              by_cases c9 : x6_2 = a0
              · rw [if_pos c9] at H
                have c9b0 : (x6_2 == a0) = true := beq_iff_eq.mpr c9
                have c9b1 : (x6_2 != a0) = false := bne_eq_false_iff_eq.mpr c9
                clear c9
                obtain rfl := Option.some.inj H
                go_wp2
                go_ret
                exact ⟨by first | rfl | (simp; done) | (simp [*]; done), by repeat (first | exact Drawn0.refl _ | apply Drawn0.step)⟩
              · rw [if_neg c9] at H
                have c9b0 : (x6_2 == a0) = false := beq_eq_false_iff_ne.mpr c9
                have c9b1 : (x6_2 != a0) = true := bne_iff_ne.mpr c9
                replace H := Option.bind_eq_some_iff.mp H
                obtain ⟨t235, A100, H⟩ := H
                replace H : (fuglemanref05_Between.l0 k2 a0 a1 t235 (Int.tmod (wrap64 (x6_2 + 1)) 32)) = some r := H
                have A10 := Aside0.mk A100
                clear A100
                have H' := Aside0.mk H
                clear H
                go_wp2_with (first | ((with_reducible refine gate_callee (f := 20) rfl ?_); refine goesL_ (some 37) rfl rfl Tryd.func20 (by kernel_rfl) rfl #[.int .u32 x5_2, .int .i64 x6_2] rfl (by (try simp only [List.map_toArray, List.map_cons, List.map_nil]); first | done | rfl | (simp only [List.length_drop, List.length_take]; rfl)) ?_; (with_reducible refine (fuglemanref05_With.calls k2 x5_2 x6_2 t235 _ A10.out).mono ?_); rintro e w' ⟨rfl, ⟨nd, rfl⟩⟩; refine ⟨_, rfl, ?_⟩))
                go_roundg k2
                case measure => have := HJ2.out; have := HK2.out; omega
                case rel => exact ⟨(t235), (Int.tmod (wrap64 (x6_2 + 1)) 32), (by first | rfl | (simp; done) | (simp [*]; done)), (by first | rfl | (simp; done) | (simp [*]; done)), H', ⟨by have := HJ2.out; have := HK2.out; omega⟩, by repeat (first | exact Drawn0.refl _ | apply Drawn0.step)⟩

/-! ### members_Pass: function 31 -/
def members_Pass.j0 : Nat → Int → Int → Int → Bool → Option (Int)
  | 0, _, _, _, _ => none
  | k + 1, x0, x1, x2, x14 => if x14 = true then (some x0) else ((members_Between.f x1 x2).bind fun t238 => ((members_one.f x1).bind fun t239 => ((members_one.f x2).bind fun t240 => (some (Go.bits .or .u32 (Go.bits .or .u32 (Go.bits .andNot .u32 x0 t238) t239) t240)))))
def members_Pass.f (k : Nat) (a0 : Int) (a1 : Int) (a2 : Int) : Option (Int) := (members_is.f a1).bind fun t236 => (if t236 = true then ((members_is.f a2).bind fun t237 => (members_Pass.j0 k a0 a1 a2 (!t237))) else (members_Pass.j0 k a0 a1 a2 true))
theorem members_Pass.mono_l : ∀ k, (∀ y0 y1 y2 y3, LeO (members_Pass.j0 k y0 y1 y2 y3) (members_Pass.j0 (k + 1) y0 y1 y2 y3))
  | 0 => fun _ _ _ _ r h => by simp [members_Pass.j0] at h
  | k + 1 => by
    have ih0 := members_Pass.mono_l k
    · intro y0 y1 y2 y3
      unfold members_Pass.j0
      repeat' first
      | (with_reducible exact ih0 _ _ _ _)
      | (with_reducible exact LeO.refl _)
      | (with_reducible exact LeO.none _)
      | (with_reducible refine LeO.ite ?_ ?_)
      | (with_reducible refine LeO.bind ?_ (fun _ => ?_))
      | exact ih0 _ _ _ _
      | exact LeO.none _
      | refine LeO.ite ?_ ?_
      | refine LeO.bind ?_ (fun _ => ?_)
theorem members_Pass.mono : ∀ a0 a1 a2 k, LeO (members_Pass.f k a0 a1 a2) (members_Pass.f (k + 1) a0 a1 a2) := by
  intro a0 a1 a2 k
  have ih0 := members_Pass.mono_l k
  unfold members_Pass.f
  repeat' first
      | (with_reducible exact ih0 _ _ _ _)
      | (with_reducible exact LeO.refl _)
      | (with_reducible exact LeO.none _)
      | (with_reducible refine LeO.ite ?_ ?_)
      | (with_reducible refine LeO.bind ?_ (fun _ => ?_))
      | exact ih0 _ _ _ _
      | exact LeO.none _
      | refine LeO.ite ?_ ?_
      | refine LeO.bind ?_ (fun _ => ?_)
set_option maxHeartbeats 8000000 in
set_option maxRecDepth 100000 in
theorem members_Pass.calls (k : Nat) (a0 : Int) (a1 : Int) (a2 : Int) (r : Int) (w : World) (h : members_Pass.f k a0 a1 a2 = some r) :
    Calls Tryd.prog 31 #[.int .u32 a0, .int .i64 a1, .int .i64 a2] w fun e w' => e = .returned (.int .u32 r) ∧ Below w.heap.size w w' := by
  have HB := Aside0.mk (Below.refl w.heap.size w)
  have H : ((members_is.f a1).bind fun t236 => (if t236 = true then ((members_is.f a2).bind fun t237 => (members_Pass.j0 k a0 a1 a2 (!t237))) else (members_Pass.j0 k a0 a1 a2 true))) = some r := h
  clear h
  have HC4 := Aside0.mk H
  clear H
  go_enter Tryd.func31, Tryd.ntmps31
  go_upto_region 1 with (fail)
  go_cut [14] (fun v14 wc => ∃ (kq : Nat) (x14_3 : Bool), v14 = .bool x14_3 ∧ Aside0 (members_Pass.j0 kq a0 a1 a2 x14_3 = some r) ∧ Aside0 (kq ≤ k) ∧ Aside0 (Below w.heap.size w wc))
  case first =>
    have H := HC4.out
    clear HC4
    replace H := Option.bind_eq_some_iff.mp H
    obtain ⟨t236, A50, H⟩ := H
    replace H : (if t236 = true then ((members_is.f a2).bind fun t237 => (members_Pass.j0 k a0 a1 a2 (!t237))) else (members_Pass.j0 k a0 a1 a2 true)) = some r := H
    have A5 := Aside0.mk A50
    clear A50
    by_cases c6 : t236 = true
    · subst c6
      have H1 : ((members_is.f a2).bind fun t237 => (members_Pass.j0 k a0 a1 a2 (!t237))) = some r := by rw [if_pos rfl] at H; exact H
      clear H
      have H := H1
      clear H1
      replace H := Option.bind_eq_some_iff.mp H
      obtain ⟨t237, A70, H⟩ := H
      replace H : (members_Pass.j0 k a0 a1 a2 (!t237)) = some r := H
      have A7 := Aside0.mk A70
      clear A70
      have H' := Aside0.mk H
      clear H
      go_wp2_with (first | ((with_reducible refine gate_callee (f := 35) rfl ?_); refine goesL_ (some 8) rfl rfl Tryd.func35 (by kernel_rfl) rfl #[.int .i64 a1] rfl (by (try simp only [List.map_toArray, List.map_cons, List.map_nil]); first | done | rfl | (simp only [List.length_drop, List.length_take]; rfl)) ?_; (with_reducible refine (members_is.calls a1 true _ A5.out).mono ?_); rintro e w' ⟨rfl, ⟨nd, rfl⟩⟩; refine ⟨_, rfl, ?_⟩) | (go_at_call 35; (with_reducible refine (members_is.calls a2 t237 _ A7.out).mono ?_); rintro e w' ⟨rfl, ⟨nd, rfl⟩⟩))
      go_meet
      case rel => exact ⟨_, (!t237), (by first | rfl | (simp; done) | (simp [*]; done)), H', ⟨by first | omega | exact Nat.le_refl _⟩, ⟨by repeat (first | (with_reducible first | exact HB.out | apply below_alloc | apply pw_below_drewN | apply below_drew1) | exact HB.out)⟩⟩
    · replace c6 := Bool.eq_false_iff.mpr c6
      subst c6
      have H1 : (members_Pass.j0 k a0 a1 a2 true) = some r := by rw [if_neg (show ¬ (false = true) by decide)] at H; exact H
      clear H
      have H := H1
      clear H1
      have H' := Aside0.mk H
      clear H
      go_wp2_with (first | ((with_reducible refine gate_callee (f := 35) rfl ?_); refine goesL_ (some 8) rfl rfl Tryd.func35 (by kernel_rfl) rfl #[.int .i64 a1] rfl (by (try simp only [List.map_toArray, List.map_cons, List.map_nil]); first | done | rfl | (simp only [List.length_drop, List.length_take]; rfl)) ?_; (with_reducible refine (members_is.calls a1 false _ A5.out).mono ?_); rintro e w' ⟨rfl, ⟨nd, rfl⟩⟩; refine ⟨_, rfl, ?_⟩))
      go_meet
      case rel => exact ⟨_, (true), (by first | rfl | (simp; done) | (simp [*]; done)), H', ⟨by first | omega | exact Nat.le_refl _⟩, ⟨by repeat (first | (with_reducible first | exact HB.out | apply below_alloc | apply pw_below_drewN | apply below_drew1) | exact HB.out)⟩⟩
  case rest =>
    clear HC4
    try clear p2
    try clear c3
    try clear c6
    obtain ⟨kq, x14_3, rfl, HA, HJ3, HB⟩ := hcut
    cases kq with
    | zero => exact absurd HA.out (by simp [members_Pass.j0])
    | succ kj3 =>
      have H := HA.out
      clear HA
      simp only [members_Pass.j0] at H
      by_cases c8 : x14_3 = true
      · subst c8
        have H1 : (some a0) = some r := by rw [if_pos rfl] at H; exact H
        clear H
        have H := H1
        clear H1
        obtain rfl := Option.some.inj H
        go_wp2
        go_ret
        exact ⟨by first | rfl | (simp [errW_none, errW_some] <;> rfl) | (simp [*, errW_none, errW_some] <;> rfl), by repeat (first | (with_reducible first | exact HB.out | apply below_alloc | apply pw_below_drewN | apply below_drew1) | exact HB.out)⟩
      · replace c8 := Bool.eq_false_iff.mpr c8
        subst c8
        have H1 : ((members_Between.f a1 a2).bind fun t238 => ((members_one.f a1).bind fun t239 => ((members_one.f a2).bind fun t240 => (some (Go.bits .or .u32 (Go.bits .or .u32 (Go.bits .andNot .u32 a0 t238) t239) t240))))) = some r := by rw [if_neg (show ¬ (false = true) by decide)] at H; exact H
        clear H
        have H := H1
        clear H1
        replace H := Option.bind_eq_some_iff.mp H
        obtain ⟨t238, A90, H⟩ := H
        replace H : ((members_one.f a1).bind fun t239 => ((members_one.f a2).bind fun t240 => (some (Go.bits .or .u32 (Go.bits .or .u32 (Go.bits .andNot .u32 a0 t238) t239) t240)))) = some r := H
        have A9 := Aside0.mk A90
        clear A90
        replace H := Option.bind_eq_some_iff.mp H
        obtain ⟨t239, A100, H⟩ := H
        replace H : ((members_one.f a2).bind fun t240 => (some (Go.bits .or .u32 (Go.bits .or .u32 (Go.bits .andNot .u32 a0 t238) t239) t240))) = some r := H
        have A10 := Aside0.mk A100
        clear A100
        replace H := Option.bind_eq_some_iff.mp H
        obtain ⟨t240, A110, H⟩ := H
        replace H : (some (Go.bits .or .u32 (Go.bits .or .u32 (Go.bits .andNot .u32 a0 t238) t239) t240)) = some r := H
        have A11 := Aside0.mk A110
        clear A110
        obtain rfl := Option.some.inj H
        go_wp2_with (first | ((with_reducible refine gate_callee (f := 29) rfl ?_); refine goesL_ (some 19) rfl rfl Tryd.func29 (by kernel_rfl) rfl #[.int .i64 a1, .int .i64 a2] rfl (by (try simp only [List.map_toArray, List.map_cons, List.map_nil]); first | done | rfl | (simp only [List.length_drop, List.length_take]; rfl)) ?_; (with_reducible refine (members_Between.calls a1 a2 t238 _ A9.out).mono ?_); rintro e w12 ⟨rfl, hb⟩; refine ⟨_, rfl, ?_⟩; have n0_ := Aside0.mk (below_step (by repeat (first | (with_reducible first | exact HB.out | apply below_alloc | apply pw_below_drewN | apply below_drew1) | exact HB.out)) hb); clear HB; have HB := n0_; clear n0_; (try clear hb); (try clear hb2); (try clear hk); (try clear hi)) | ((with_reducible refine gate_callee (f := 39) rfl ?_); refine goesL_ (some 22) rfl rfl Tryd.func39 (by kernel_rfl) rfl #[.int .i64 a1] rfl (by (try simp only [List.map_toArray, List.map_cons, List.map_nil]); first | done | rfl | (simp only [List.length_drop, List.length_take]; rfl)) ?_; (with_reducible refine (members_one.calls a1 t239 _ A10.out).mono ?_); rintro e w' ⟨rfl, ⟨nd, rfl⟩⟩; refine ⟨_, rfl, ?_⟩) | ((with_reducible refine gate_callee (f := 39) rfl ?_); refine goesL_ (some 25) rfl rfl Tryd.func39 (by kernel_rfl) rfl #[.int .i64 a2] rfl (by (try simp only [List.map_toArray, List.map_cons, List.map_nil]); first | done | rfl | (simp only [List.length_drop, List.length_take]; rfl)) ?_; (with_reducible refine (members_one.calls a2 t240 _ A11.out).mono ?_); rintro e w' ⟨rfl, ⟨nd, rfl⟩⟩; refine ⟨_, rfl, ?_⟩))
        go_ret
        exact ⟨by first | rfl | (simp [errW_none, errW_some] <;> rfl) | (simp [*, errW_none, errW_some] <;> rfl), by repeat (first | (with_reducible first | exact HB.out | apply below_alloc | apply pw_below_drewN | apply below_drew1) | exact HB.out)⟩

/-! ### fuglemanref05_Pass: function 32 -/
mutual
def fuglemanref05_Pass.j0 : Nat → Int → Int → Int → Bool → Option (Int)
  | 0, _, _, _, _ => none
  | k + 1, x0, x1, x2, x22 => if x22 = true then (some x0) else ((fuglemanref05_Between.f k x1 x2).bind fun t241 => ((fuglemanref05_List.f k t241).bind fun t242 => (fuglemanref05_Pass.l0 k x0 x1 x2 t242 0)))
def fuglemanref05_Pass.l0 : Nat → Int → Int → Int → List Int → Int → Option (Int)
  | 0, _, _, _, _, _ => none
  | k + 1, x0, x1, x2, x7, x8 => if x8 < (x7.length : Int) then (if 0 ≤ x8 then ((fuglemanref05_Without.f k x0 (rd x7 x8)).bind fun t246 => (fuglemanref05_Pass.l0 k t246 x1 x2 x7 (wrap64 (x8 + 1)))) else (none)) else ((fuglemanref05_With.f k x0 x1).bind fun t247 => ((fuglemanref05_With.f k t247 x2).bind fun t248 => (some t248)))
end
def fuglemanref05_Pass.f (k : Nat) (a0 : Int) (a1 : Int) (a2 : Int) : Option (Int) := if a1 < 0 then (fuglemanref05_Pass.j0 k a0 a1 a2 true) else (if a1 > 31 then (fuglemanref05_Pass.j0 k a0 a1 a2 true) else (if a2 < 0 then (fuglemanref05_Pass.j0 k a0 a1 a2 true) else (fuglemanref05_Pass.j0 k a0 a1 a2 (decide (a2 > 31)))))
theorem fuglemanref05_Pass.mono_l : ∀ k, (∀ y0 y1 y2 y3, LeO (fuglemanref05_Pass.j0 k y0 y1 y2 y3) (fuglemanref05_Pass.j0 (k + 1) y0 y1 y2 y3)) ∧ (∀ y0 y1 y2 y3 y4, LeO (fuglemanref05_Pass.l0 k y0 y1 y2 y3 y4) (fuglemanref05_Pass.l0 (k + 1) y0 y1 y2 y3 y4))
  | 0 => ⟨fun _ _ _ _ r h => by simp [fuglemanref05_Pass.j0] at h, fun _ _ _ _ _ r h => by simp [fuglemanref05_Pass.l0] at h⟩
  | k + 1 => by
    obtain ⟨ih0, ih1⟩ := fuglemanref05_Pass.mono_l k
    refine ⟨?_, ?_⟩
    · intro y0 y1 y2 y3
      unfold fuglemanref05_Pass.j0
      repeat' first
      | (with_reducible exact ih0 _ _ _ _)
      | (with_reducible exact ih1 _ _ _ _ _)
      | (with_reducible exact fuglemanref05_Between.mono _ _ _)
      | (with_reducible exact fuglemanref05_List.mono _ _)
      | (with_reducible exact fuglemanref05_With.mono _ _ _)
      | (with_reducible exact fuglemanref05_Without.mono _ _ _)
      | (with_reducible exact LeO.refl _)
      | (with_reducible exact LeO.none _)
      | (with_reducible refine LeO.ite ?_ ?_)
      | (with_reducible refine LeO.bind ?_ (fun _ => ?_))
      | exact ih0 _ _ _ _
      | exact ih1 _ _ _ _ _
      | exact fuglemanref05_Between.mono _ _ _
      | exact fuglemanref05_List.mono _ _
      | exact fuglemanref05_With.mono _ _ _
      | exact fuglemanref05_Without.mono _ _ _
      | exact LeO.none _
      | refine LeO.ite ?_ ?_
      | refine LeO.bind ?_ (fun _ => ?_)
    · intro y0 y1 y2 y3 y4
      unfold fuglemanref05_Pass.l0
      repeat' first
      | (with_reducible exact ih0 _ _ _ _)
      | (with_reducible exact ih1 _ _ _ _ _)
      | (with_reducible exact fuglemanref05_Between.mono _ _ _)
      | (with_reducible exact fuglemanref05_List.mono _ _)
      | (with_reducible exact fuglemanref05_With.mono _ _ _)
      | (with_reducible exact fuglemanref05_Without.mono _ _ _)
      | (with_reducible exact LeO.refl _)
      | (with_reducible exact LeO.none _)
      | (with_reducible refine LeO.ite ?_ ?_)
      | (with_reducible refine LeO.bind ?_ (fun _ => ?_))
      | exact ih0 _ _ _ _
      | exact ih1 _ _ _ _ _
      | exact fuglemanref05_Between.mono _ _ _
      | exact fuglemanref05_List.mono _ _
      | exact fuglemanref05_With.mono _ _ _
      | exact fuglemanref05_Without.mono _ _ _
      | exact LeO.none _
      | refine LeO.ite ?_ ?_
      | refine LeO.bind ?_ (fun _ => ?_)
theorem fuglemanref05_Pass.mono : ∀ a0 a1 a2 k, LeO (fuglemanref05_Pass.f k a0 a1 a2) (fuglemanref05_Pass.f (k + 1) a0 a1 a2) := by
  intro a0 a1 a2 k
  obtain ⟨ih0, ih1⟩ := fuglemanref05_Pass.mono_l k
  unfold fuglemanref05_Pass.f
  repeat' first
      | (with_reducible exact ih0 _ _ _ _)
      | (with_reducible exact ih1 _ _ _ _ _)
      | (with_reducible exact fuglemanref05_Between.mono _ _ _)
      | (with_reducible exact fuglemanref05_List.mono _ _)
      | (with_reducible exact fuglemanref05_With.mono _ _ _)
      | (with_reducible exact fuglemanref05_Without.mono _ _ _)
      | (with_reducible exact LeO.refl _)
      | (with_reducible exact LeO.none _)
      | (with_reducible refine LeO.ite ?_ ?_)
      | (with_reducible refine LeO.bind ?_ (fun _ => ?_))
      | exact ih0 _ _ _ _
      | exact ih1 _ _ _ _ _
      | exact fuglemanref05_Between.mono _ _ _
      | exact fuglemanref05_List.mono _ _
      | exact fuglemanref05_With.mono _ _ _
      | exact fuglemanref05_Without.mono _ _ _
      | exact LeO.none _
      | refine LeO.ite ?_ ?_
      | refine LeO.bind ?_ (fun _ => ?_)
set_option maxHeartbeats 8000000 in
set_option maxRecDepth 100000 in
theorem fuglemanref05_Pass.calls (k : Nat) (a0 : Int) (a1 : Int) (a2 : Int) (r : Int) (w : World) (h : fuglemanref05_Pass.f k a0 a1 a2 = some r) :
    Calls Tryd.prog 32 #[.int .u32 a0, .int .i64 a1, .int .i64 a2] w fun e w' => e = .returned (.int .u32 r) ∧ Below w.heap.size w w' := by
  have HB := Aside0.mk (Below.refl w.heap.size w)
  have H : (if a1 < 0 then (fuglemanref05_Pass.j0 k a0 a1 a2 true) else (if a1 > 31 then (fuglemanref05_Pass.j0 k a0 a1 a2 true) else (if a2 < 0 then (fuglemanref05_Pass.j0 k a0 a1 a2 true) else (fuglemanref05_Pass.j0 k a0 a1 a2 (decide (a2 > 31)))))) = some r := h
  clear h
  have HC4 := Aside0.mk H
  clear H
  go_enter Tryd.func32, Tryd.ntmps32
  go_upto_region 1 with (fail)
  go_cut [22] (fun v22 wc => ∃ (kq : Nat) (x22_3 : Bool), v22 = .bool x22_3 ∧ Aside0 (fuglemanref05_Pass.j0 kq a0 a1 a2 x22_3 = some r) ∧ Aside0 (kq ≤ k) ∧ Aside0 (Below w.heap.size w wc))
  case first =>
    have H := HC4.out
    clear HC4
    by_cases c5 : a1 < 0
    · rw [if_pos c5] at H
      have c5b0 : decide (a1 < 0) = true := decide_eq_true c5
      clear c5
      (first | rw [c5b0] | (simp only [i64_w, i32_w]; rw [c5b0]) | skip)
      have H' := Aside0.mk H
      clear H
      go_wp2
      go_meet
      case rel => exact ⟨_, (true), (by first | rfl | (simp; done) | (simp [*]; done)), H', ⟨by first | omega | exact Nat.le_refl _⟩, ⟨by repeat (first | (with_reducible first | exact HB.out | apply below_alloc | apply pw_below_drewN | apply below_drew1) | exact HB.out)⟩⟩
    · rw [if_neg c5] at H
      have c5b0 : decide (a1 < 0) = false := decide_eq_false c5
      clear c5
      (first | rw [c5b0] | (simp only [i64_w, i32_w]; rw [c5b0]) | skip)
      by_cases c6 : a1 > 31
      · rw [if_pos c6] at H
        have c6b0 : decide (31 < a1) = true := decide_eq_true c6
        clear c6
        have H' := Aside0.mk H
        clear H
        go_wp2
        go_meet
        case rel => exact ⟨_, (true), (by first | rfl | (simp; done) | (simp [*]; done)), H', ⟨by first | omega | exact Nat.le_refl _⟩, ⟨by repeat (first | (with_reducible first | exact HB.out | apply below_alloc | apply pw_below_drewN | apply below_drew1) | exact HB.out)⟩⟩
      · rw [if_neg c6] at H
        have c6b0 : decide (31 < a1) = false := decide_eq_false c6
        clear c6
        by_cases c7 : a2 < 0
        · rw [if_pos c7] at H
          have c7b0 : decide (a2 < 0) = true := decide_eq_true c7
          clear c7
          have H' := Aside0.mk H
          clear H
          go_wp2
          go_meet
          case rel => exact ⟨_, (true), (by first | rfl | (simp; done) | (simp [*]; done)), H', ⟨by first | omega | exact Nat.le_refl _⟩, ⟨by repeat (first | (with_reducible first | exact HB.out | apply below_alloc | apply pw_below_drewN | apply below_drew1) | exact HB.out)⟩⟩
        · rw [if_neg c7] at H
          have c7b0 : decide (a2 < 0) = false := decide_eq_false c7
          clear c7
          have H' := Aside0.mk H
          clear H
          go_wp2
          go_meet
          case rel => exact ⟨_, (decide (a2 > 31)), (by first | rfl | (simp; done) | (simp [*]; done)), H', ⟨by first | omega | exact Nat.le_refl _⟩, ⟨by repeat (first | (with_reducible first | exact HB.out | apply below_alloc | apply pw_below_drewN | apply below_drew1) | exact HB.out)⟩⟩
  case rest =>
    clear HC4
    try clear p2
    try clear c3
    try clear c5
    try clear c5b0
    try clear c6
    try clear c6b0
    try clear c7
    try clear c7b0
    obtain ⟨kq, x22_3, rfl, HA, HJ3, HB⟩ := hcut
    cases kq with
    | zero => exact absurd HA.out (by simp [fuglemanref05_Pass.j0])
    | succ kj3 =>
      have H := HA.out
      clear HA
      simp only [fuglemanref05_Pass.j0] at H
      by_cases c8 : x22_3 = true
      · subst c8
        have H1 : (some a0) = some r := by rw [if_pos rfl] at H; exact H
        clear H
        have H := H1
        clear H1
        obtain rfl := Option.some.inj H
        go_wp2
        go_ret
        exact ⟨by first | rfl | (simp [errW_none, errW_some] <;> rfl) | (simp [*, errW_none, errW_some] <;> rfl), by repeat (first | (with_reducible first | exact HB.out | apply below_alloc | apply pw_below_drewN | apply below_drew1) | exact HB.out)⟩
      · replace c8 := Bool.eq_false_iff.mpr c8
        subst c8
        have H1 : ((fuglemanref05_Between.f kj3 a1 a2).bind fun t241 => ((fuglemanref05_List.f kj3 t241).bind fun t242 => (fuglemanref05_Pass.l0 kj3 a0 a1 a2 t242 0))) = some r := by rw [if_neg (show ¬ (false = true) by decide)] at H; exact H
        clear H
        have H := H1
        clear H1
        replace H := Option.bind_eq_some_iff.mp H
        obtain ⟨t241, A90, H⟩ := H
        replace H : ((fuglemanref05_List.f kj3 t241).bind fun t242 => (fuglemanref05_Pass.l0 kj3 a0 a1 a2 t242 0)) = some r := H
        have A9 := Aside0.mk A90
        clear A90
        replace H := Option.bind_eq_some_iff.mp H
        obtain ⟨t242, A100, H⟩ := H
        replace H : (fuglemanref05_Pass.l0 kj3 a0 a1 a2 t242 0) = some r := H
        have A10 := Aside0.mk A100
        clear A100
        have H' := Aside0.mk H
        clear H
        go_wp2_with (first | ((with_reducible refine gate_callee (f := 30) rfl ?_); refine goesL_ (some 26) rfl rfl Tryd.func30 (by kernel_rfl) rfl #[.int .i64 a1, .int .i64 a2] rfl (by (try simp only [List.map_toArray, List.map_cons, List.map_nil]); first | done | rfl | (simp only [List.length_drop, List.length_take]; rfl)) ?_; (with_reducible refine (fuglemanref05_Between.calls kj3 a1 a2 t241 _ A9.out).mono ?_); rintro e w' ⟨rfl, ⟨nd, rfl⟩⟩; refine ⟨_, rfl, ?_⟩) | ((with_reducible refine gate_callee (f := 16) rfl ?_); refine goesL_ (some 27) rfl rfl Tryd.func16 (by kernel_rfl) rfl #[.int .u32 t241] rfl (by (try simp only [List.map_toArray, List.map_cons, List.map_nil]); first | done | rfl | (simp only [List.length_drop, List.length_take]; rfl)) ?_; (with_reducible refine (fuglemanref05_List.calls kj3 t241 t242 _ A10.out).mono ?_); rintro e w11 ⟨v243, rfl, ho0, hb⟩; refine ⟨_, rfl, ?_⟩; have n0_ := Aside0.mk (Kd.R_lower ho0 (below_size (by repeat (first | (with_reducible first | exact HB.out | apply below_alloc | apply pw_below_drewN | apply below_drew1) | exact HB.out)))); have n1_ := Aside0.mk (below_step (by repeat (first | (with_reducible first | exact HB.out | apply below_alloc | apply pw_below_drewN | apply below_drew1) | exact HB.out)) hb); clear HB; have HO244 := n0_; have HB := n1_; clear n0_ n1_; (try clear hb); (try clear hb2); (try clear hk); (try clear hi); (try clear ho0)))
        go_loopg [0, 8] kj3 (fun kq v0 v8 w' => ∃ (x0_2 : Int) (x8_2 : Int), v0 = .int .u32 x0_2 ∧ v8 = .int .i64 x8_2 ∧ Aside0 (fuglemanref05_Pass.l0 kq x0_2 a1 a2 t242 x8_2 = some r) ∧ Aside0 (kq ≤ kj3) ∧ Aside0 (Kd.R (Kd.int .i64) 3 w' w.heap.size (fun _ => True) v243 t242) ∧ Aside0 (Below w.heap.size w w'))
        case atStart => exact ⟨(a0), (0), (by first | rfl | (simp; done) | (simp [*]; done)), (by first | rfl | (simp; done) | (simp [*]; done)), H', ⟨Nat.le_refl _⟩, ⟨by (with_reducible repeat (first | apply Kd.R_alloc | apply Kd.R_drewN | apply Kd.R_drew)); exact HO244.out⟩, ⟨by repeat (first | (with_reducible first | exact HB.out | apply below_alloc | apply pw_below_drewN | apply below_drew1) | exact HB.out)⟩⟩
        case round =>
          clear H'
          try clear c1
          try clear p2
          try clear c3
          try clear c5
          try clear c5b0
          try clear c6
          try clear c6b0
          try clear c7
          try clear c7b0
          try clear c8
          try clear p2
          obtain ⟨x0_2, x8_2, rfl, rfl, HA, HK2, HO_7, HB⟩ := hrel
          cases gk with
          | zero => exact absurd HA.out (by simp [fuglemanref05_Pass.l0])
          | succ k2 =>
            have H := HA.out
            clear HA
            simp only [fuglemanref05_Pass.l0] at H
            by_cases c12 : x8_2 < (t242.length : Int)
            · rw [if_pos c12] at H
              have c12b0 : decide (x8_2 < (t242.length : Int)) = true := decide_eq_true c12
              clear c12
              by_cases c13 : 0 ≤ x8_2
              · rw [if_pos c13] at H
                have c13b0 : decide (0 ≤ x8_2) = true := decide_eq_true c13
                clear c13
                replace H := Option.bind_eq_some_iff.mp H
                obtain ⟨t246, A140, H⟩ := H
                replace H : (fuglemanref05_Pass.l0 k2 t246 a1 a2 t242 (wrap64 (x8_2 + 1))) = some r := H
                have A14 := Aside0.mk A140
                clear A140
                have H' := Aside0.mk H
                clear H
                obtain ⟨Ao15, co15, eo15⟩ := Kd.R_slice HO_7.out
                subst eo15
                have p245 : 0 ≤ (x8_2 : Int) := of_decide_eq_true (by first | (with_reducible assumption) | assumption)
                have q245 : x8_2 < (t242.length : Int) := of_decide_eq_true (by first | (with_reducible assumption) | assumption)
                obtain ⟨ad245, e245, hx245_0⟩ := Kd.at_int (Kd.R_reads' HO_7.out).2.2 x8_2 p245 q245
                cases e245
                replace p245 := eq_true p245
                replace q245 := eq_true q245
                go_wp2_with (first | ((with_reducible refine gate_callee (f := 22) rfl ?_); refine goesL_ (some 39) rfl rfl Tryd.func22 (by kernel_rfl) rfl #[.int .u32 x0_2, .int .i64 (rd t242 x8_2)] rfl (by (try simp only [List.map_toArray, List.map_cons, List.map_nil]); first | done | rfl | (simp only [List.length_drop, List.length_take]; rfl)) ?_; (with_reducible refine (fuglemanref05_Without.calls k2 x0_2 (rd t242 x8_2) t246 _ A14.out).mono ?_); rintro e w16 ⟨rfl, hb⟩; refine ⟨_, rfl, ?_⟩; have n0_ := Aside0.mk (Kd.R_below (by (with_reducible repeat (first | apply Kd.R_alloc | apply Kd.R_drewN | apply Kd.R_drew)); exact HO_7.out) hb); have n1_ := Aside0.mk (below_step (by repeat (first | (with_reducible first | exact HB.out | apply below_alloc | apply pw_below_drewN | apply below_drew1) | exact HB.out)) hb); clear HO_7; clear HB; have HO_7 := n0_; have HB := n1_; clear n0_ n1_; (try clear hb); (try clear hb2); (try clear hk); (try clear hi)))
                go_roundg k2
                case measure => have := HJ3.out; have := HK2.out; omega
                case rel => exact ⟨(t246), (wrap64 (x8_2 + 1)), (by first | rfl | (simp; done) | (simp [*]; done)), (by first | rfl | (simp; done) | (simp [*]; done)), H', ⟨by have := HJ3.out; have := HK2.out; omega⟩, ⟨by (with_reducible repeat (first | apply Kd.R_alloc | apply Kd.R_drewN | apply Kd.R_drew)); exact HO_7.out⟩, ⟨by repeat (first | (with_reducible first | exact HB.out | apply below_alloc | apply pw_below_drewN | apply below_drew1) | exact HB.out)⟩⟩
              · rw [if_neg c13] at H
                exact absurd H (by simp)
            · rw [if_neg c12] at H
              have c12b0 : decide (x8_2 < (t242.length : Int)) = false := decide_eq_false c12
              clear c12
              replace H := Option.bind_eq_some_iff.mp H
              obtain ⟨t247, A170, H⟩ := H
              replace H : ((fuglemanref05_With.f k2 t247 a2).bind fun t248 => (some t248)) = some r := H
              have A17 := Aside0.mk A170
              clear A170
              replace H := Option.bind_eq_some_iff.mp H
              obtain ⟨t248, A180, H⟩ := H
              replace H : (some t248) = some r := H
              have A18 := Aside0.mk A180
              clear A180
              obtain rfl := Option.some.inj H
              obtain ⟨Ao19, co19, eo19⟩ := Kd.R_slice HO_7.out
              subst eo19
              go_wp2_with (first | ((with_reducible refine gate_callee (f := 20) rfl ?_); refine goesL_ (some 42) rfl rfl Tryd.func20 (by kernel_rfl) rfl #[.int .u32 x0_2, .int .i64 a1] rfl (by (try simp only [List.map_toArray, List.map_cons, List.map_nil]); first | done | rfl | (simp only [List.length_drop, List.length_take]; rfl)) ?_; (with_reducible refine (fuglemanref05_With.calls k2 x0_2 a1 t247 _ A17.out).mono ?_); rintro e w' ⟨rfl, ⟨nd, rfl⟩⟩; refine ⟨_, rfl, ?_⟩) | ((with_reducible refine gate_callee (f := 20) rfl ?_); refine goesL_ (some 44) rfl rfl Tryd.func20 (by kernel_rfl) rfl #[.int .u32 t247, .int .i64 a2] rfl (by (try simp only [List.map_toArray, List.map_cons, List.map_nil]); first | done | rfl | (simp only [List.length_drop, List.length_take]; rfl)) ?_; (with_reducible refine (fuglemanref05_With.calls k2 t247 a2 t248 _ A18.out).mono ?_); rintro e w' ⟨rfl, ⟨nd, rfl⟩⟩; refine ⟨_, rfl, ?_⟩))
              go_ret
              exact ⟨by first | rfl | (simp [errW_none, errW_some] <;> rfl) | (simp [*, errW_none, errW_some] <;> rfl), by repeat (first | (with_reducible first | exact HB.out | apply below_alloc | apply pw_below_drewN | apply below_drew1) | exact HB.out)⟩

end Go.Proofs.YtfhiggefmcklaaaDoor.Own
