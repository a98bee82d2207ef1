/- The law's function WheelSkips answers true: the walk. Conditions: the list of acts reads as told, the table of math/bits as laid. -/
import Derived.Test.YtbpjcgahdgpmhaaDoorWheel9
import Derived.Deep.RegionHeldLaw
namespace Go.Proofs.YtbpjcgahdgpmhaaDoor.Whl
open Go.RowKit Go.Proofs.YtbpjcgahdgpmhaaDoorW.PrintWords Go.Proofs.YtbpjcgahdgpmhaaDoorW.PrintLast Go.Proofs.YtbpjcgahdgpmhaaDoorW.PrintMore
set_option linter.unusedVariables false
set_option maxHeartbeats 1000000 in
theorem skips_walk (w : World) (ht : Tabs w) (A : Option Addr) (c : Nat) (l : List (Int × Int × Int)) (hl : Acts w A l) (n : Nat) (hln : l.length = n) (a b : Int) (h1 : n ≤ 16) (h2 : 0 ≤ a) (h3 : 0 ≤ b) (h4 : a ≤ 2000) (h5 : b ≤ 2000) :
    Calls Tryd.prog 5 #[.slice A n c, .int .i64 a, .int .i64 b] w fun e w' => e = .returned (.bool true) ∧ Below w.heap.size w w' := by
  have HAw := Aside0.mk (awake_f w ht)
  have HACT := Aside0.mk hl
  have HLN := Aside0.mk hln
  have HT := Aside0.mk ht
  have HAB := Aside0.mk (show n ≤ 16 ∧ 0 ≤ a ∧ 0 ≤ b ∧ a ≤ 2000 ∧ b ≤ 2000 from ⟨h1, h2, h3, h4, h5⟩)
  have d1 : decide (16 < (n : Int)) = false := decide_eq_false (by omega)
  have d2 : decide (a < 0) = false := decide_eq_false (by omega)
  have d3 : decide (b < 0) = false := decide_eq_false (by omega)
  have d4 : decide (2000 < a) = false := decide_eq_false (by omega)
  have d5 : decide (2000 < b) = false := decide_eq_false (by omega)
  have M1 := Aside0.mk True.intro
  clear h1 h2 h3 h4 h5 hl hln ht
  go_enter Tryd.func5, Tryd.ntmps5
  go_wp2_with (first | (go_at_call 6; refine HAw.out.mono ?_; rintro e w' ⟨rfl, hb⟩; have HB := Aside0.mk hb; clear hb HAw) | (go_at_call 7; clear M1; refine (new2 _).mono ?_; rintro e w' ⟨gv, rfl, hg1, hg2, ha, hb⟩; have HV := Aside0.mk ha; have HGV := Aside0.mk (show w.heap.size ≤ gv ∧ gv < w'.heap.size from ⟨Nat.le_trans HB.out.size hg1, hg2⟩); have n0_ := Aside0.mk (HB.out.trans (hb.mono HB.out.size)); clear HB ha hg1 hg2 hb; have HB := n0_; clear n0_) | (go_at_call 7; refine (new2 _).mono ?_; rintro e w' ⟨gw, rfl, hg1, hg2, ha, hb⟩; have HW := Aside0.mk ha; have HGW := Aside0.mk (show gv < gw ∧ gw < w'.heap.size from ⟨Nat.lt_of_lt_of_le HGV.out.2 hg1, hg2⟩); have n1_ := Aside0.mk (HV.out.own hb HGV.out.2); have n0_ := Aside0.mk (HB.out.trans (hb.mono HB.out.size)); clear HB HV ha hg1 hg2 hb; have HB := n0_; have HV := n1_; clear n0_ n1_))
  go_loopg [39] 17 (fun kq v39 w' => ∃ (i : Nat) (s : Wh), v39 = .int .i64 (i : Int) ∧ Aside0 (kq + i = 17 ∧ i ≤ n) ∧ Aside0 (At w' gv s ∧ At w' gw s ∧ Inv s ∧ s.now = 0) ∧ Aside0 (Below w.heap.size w w'))
  case atStart => exact ⟨0, none_, rfl, ⟨by have := HAB.out; omega⟩, ⟨HV.out, HW.out, none_inv, rfl⟩, HB⟩
  case round =>
    clear HV HW HB
    obtain ⟨i, s, rfl, HK, HS, HB2⟩ := hrel
    by_cases hi : i < n
    · obtain ⟨ad, rfl, x1, x2, x3⟩ := (HACT.out.below HB2.out).el i (by have := HLN.out; omega)
      have d6 : decide ((i : Int) < (n : Int)) = true := decide_eq_true (by omega)
      have d7 : (i : Int) < (n : Int) := by omega
      have d8 : 0 ≤ (i : Int) := by omega
      have HI := Aside0.mk hi
      clear hi
      generalize l.getD i (0, 0, 0) = el at x1 x2 x3
      obtain ⟨what, id, t⟩ := el
      simp only at x1 x2 x3
      go_wp2
      have HE := three_new wr (.int .u8 what) (.int .i64 id) (.int .i64 t) 28
      have HBa : Below wr.heap.size wr (wr.alloc (.cells #[.int .u8 what, .int .i64 id, .int .i64 t] 28)) := (Below.refl _ _).alloc (Nat.le_refl _) _
      have hgv : gv < wr.heap.size := HS.out.1.in
      have hgw : gw < wr.heap.size := HS.out.2.1.in
      have HV0 := Aside0.mk (HS.out.1.own HBa hgv)
      have HW0 := Aside0.mk (HS.out.2.1.own HBa hgw)
      have HBB := Aside0.mk (HB2.out.trans (HBa.mono HB2.out.size))
      have HIv := Aside0.mk HS.out.2.2
      obtain ⟨e1, e2⟩ := HE
      have hne := Aside0.mk (show gv ≠ gw ∧ wr.heap.size ≠ gv ∧ wr.heap.size ≠ gw by have := HGW.out; omega)
      have hsz : wr.heap.size < (wr.alloc (.cells #[.int .u8 what, .int .i64 id, .int .i64 t] 28)).heap.size := laid_lt _ _
      have HSZ := Aside0.mk hsz
      have HGV2 := Aside0.mk (And.intro hgv hgw)
      generalize wr.alloc (.cells #[.int .u8 what, .int .i64 id, .int .i64 t] 28) = W0 at *
      generalize wr.heap.size = E at *
      clear hgv hgw HBa hsz x1 x2 x3
      have m0_ := Aside0.mk (HV0.out.drawn (w' := W0.drew) ⟨1, rfl⟩)
      have m1_ := Aside0.mk (HW0.out.drawn (w' := W0.drew) ⟨1, rfl⟩)
      have m2_ := Aside0.mk (HBB.out.trans (show Below w.heap.size W0 W0.drew from ⟨rfl, rfl, rfl, Nat.le_refl _, fun _ _ => rfl⟩))
      have m3_ := Aside0.mk (show E < W0.drew.heap.size from HSZ.out)
      clear HV0 HW0 HBB HSZ
      have HV0 := m0_
      have HW0 := m1_
      have HBB := m2_
      have HSZ := m3_
      clear m0_ m1_ m2_ m3_
      go_region_held_law (fun w' => w'.cell? ⟨E, 1, none⟩ = some (.int .i64 id) ∧ w'.cell? ⟨E, 2, none⟩ = some (.int .i64 t)) (first | assumption | exact ⟨e1, e2⟩) (first | (go_at_call 8; (with_reducible refine (set_f _ gv id t s ?ha HIv.out.1).mono ?_); (case ha => exact HV0.out); rintro e w' ⟨rfl, ha, hU⟩; have n0_ := Aside0.mk ha; have n1_ := Aside0.mk (HW0.out.kept hU (Ne.symm hne.out.1)); have n2_ := Aside0.mk (HBB.out.trans (hU.below HGV.out.1 HBB.out.size)); have f1 := (World.cell?_of_block (a := ⟨E, 1, none⟩) (hU.block E HSZ.out hne.out.2.1)).trans e1; have f2 := (World.cell?_of_block (a := ⟨E, 2, none⟩) (hU.block E HSZ.out hne.out.2.1)).trans e2; have n3_ := Aside0.mk (Nat.lt_of_lt_of_le HSZ.out hU.size); clear HV0 HW0 HBB HSZ e1 e2 ha hU; have HV0 := n0_; have HW0 := n1_; have HBB := n2_; have HSZ := n3_; clear n0_ n1_ n2_ n3_; have e1 := f1; have e2 := f2; clear f1 f2) | (go_at_call 8; (with_reducible refine (set_f _ gw id t s ?ha HIv.out.1).mono ?_); (case ha => exact HW0.out); rintro e w' ⟨rfl, ha, hU⟩; have n0_ := Aside0.mk ha; have n1_ := Aside0.mk (HV0.out.kept hU hne.out.1); have n2_ := Aside0.mk (HBB.out.trans (hU.below (by have := HGV.out; have := HGW.out; omega) HBB.out.size)); have f1 := (World.cell?_of_block (a := ⟨E, 1, none⟩) (hU.block E HSZ.out hne.out.2.2)).trans e1; have f2 := (World.cell?_of_block (a := ⟨E, 2, none⟩) (hU.block E HSZ.out hne.out.2.2)).trans e2; have n3_ := Aside0.mk (Nat.lt_of_lt_of_le HSZ.out hU.size); clear HV0 HW0 HBB HSZ e1 e2 ha hU; have HW0 := n0_; have HV0 := n1_; have HBB := n2_; have HSZ := n3_; clear n0_ n1_ n2_ n3_; have e1 := f1; have e2 := f2; clear f1 f2))
      go_wp2
      go_roundg (gk - 1)
      case measure => have := HK.out; have := HI.out; have := HAB.out; omega
      case rel => exact ⟨i + 1, seti s id t, by rw [w64 (x := (i : Int) + 1) (by omega) (by have := HI.out; have := HAB.out; omega)]; first | rfl | simp, ⟨by have := HK.out; have := HI.out; have := HAB.out; omega⟩, ⟨HV0.out, HW0.out, (seti_inv HIv.out.1 id t).1, (seti_inv HIv.out.1 id t).2.1.trans HIv.out.2⟩, HBB⟩
    · obtain rfl : i = n := by have := HK.out; omega
      have d6 : decide ((i : Int) < (i : Int)) = false := decide_eq_false (by omega)
      clear hi
      obtain ⟨a', rfl⟩ := Int.eq_ofNat_of_zero_le HAB.out.2.1
      obtain ⟨b', rfl⟩ := Int.eq_ofNat_of_zero_le HAB.out.2.2.1
      have k1 : (a' : Int) ≤ 2000 := HAB.out.2.2.2.1
      have k2 : (b' : Int) ≤ 2000 := HAB.out.2.2.2.2
      have H0 := Aside0.mk (show 0 < gv ∧ 0 < gw ∧ gv < gw by have := HGV.out; have := HGW.out; have h0 : 0 < w.heap.size := World.block_lt_of_cell? w _ (HT.out 0 (by decide)); omega)
      have HV := Aside0.mk HS.out.1
      have HW := Aside0.mk HS.out.2.1
      have HIv := Aside0.mk HS.out.2.2
      have HB := HB2
      clear HS HB2 d1 d2 d3 d4 d5
      have H00 := Aside0.mk (show 0 < w.heap.size from World.block_lt_of_cell? w _ (HT.out 0 (by decide)))
      have HGB := Aside0.mk (show gv < wr.heap.size ∧ gw < wr.heap.size from ⟨HV.out.in, HW.out.in⟩)
      have HC1 := Aside0.mk fun (w1 : World) (h : At w1 gv s) (t : Tabs w1) => skipn_f w1 gv s ((a' : Int) + (b' : Int)) (a' + b') (by omega) (by omega) h H0.out.1 HIv.out.1 (by rw [HIv.out.2]; decide) t
      have HC2 := Aside0.mk fun (w1 : World) (h : At w1 gw s) (t : Tabs w1) => skipn_f w1 gw s (a' : Int) a' rfl (by omega) h H0.out.2.1 HIv.out.1 (by rw [HIv.out.2]; decide) t
      have HN2 := Aside0.mk (show a' ≤ 2000 ∧ b' ≤ 2000 by omega)
      have M1 := Aside0.mk True.intro
      have M2 := Aside0.mk True.intro
      have M3 := Aside0.mk True.intro
      go_wp2_with (first
        | (go_at_call 16; clear M1; (with_reducible refine (HC1.out _ HV.out (HT.out.below HB.out H00.out)).mono ?_); rintro e w1 ⟨v1, sv, rfl, ho, ha, hU, hi, hv, hn⟩; obtain ⟨A1, c1, e1_⟩ := Kd.R_slice ho; subst e1_; have HO1 := Aside0.mk ho.lim; have HIV := Aside0.mk (And.intro hi hv); have n0_ := Aside0.mk ha; have n1_ := Aside0.mk (HW.out.kept hU (by have := H0.out; omega)); have n2_ := Aside0.mk (HB.out.trans (hU.below HGV.out.1 HB.out.size)); have HZ1 := Aside0.mk hU.size; clear HC1 HV HW HB ho ha hU hi hv hn; have HV := n0_; have HW := n1_; have HB := n2_; clear n0_ n1_ n2_)
        | (go_at_call 16; clear M2; (with_reducible refine (HC2.out _ HW.out (HT.out.below HB.out H00.out)).mono ?_); rintro e w2 ⟨v2, sw, rfl, ho, ha, hU, hi, hv, hn⟩; obtain ⟨A2, c2, e1_⟩ := Kd.R_slice ho; subst e1_; have n3_ := Aside0.mk (Kd.R_step HO1.out (fun k hk hlt => hU.block k hlt (by have := HGB.out; omega))); have HO2 := Aside0.mk ho; have HIW := Aside0.mk (And.intro hi hv); have HNW := Aside0.mk hn; have n0_ := Aside0.mk ha; have n1_ := Aside0.mk (HV.out.kept hU (by have := H0.out; omega)); have n2_ := Aside0.mk (HB.out.trans (hU.below (by have := HGV.out; have := HGW.out; omega) HB.out.size)); have HZ2 := Aside0.mk hU.size; clear HC2 HV HW HB HO1 ho ha hU hi hv hn; have HW := n0_; have HV := n1_; have HB := n2_; have HO1 := n3_; clear n0_ n1_ n2_ n3_)
        | (go_at_call 16; clear M3; (with_reducible refine (skipn_f _ gw sw (b' : Int) b' rfl (by have := HN2.out; omega) HW.out H0.out.2.1 HIW.out.1 (by have := HNW.out; have := HIv.out.2; have := HN2.out; omega) (HT.out.below HB.out H00.out)).mono ?_); rintro e w3 ⟨v3, sx, rfl, ho, ha, hU, hi, hv, hn⟩; obtain ⟨A3, c3, e1_⟩ := Kd.R_slice ho; subst e1_; have n3_ := Aside0.mk (Kd.R_step HO1.out (fun k hk hlt => hU.block k hlt (by have := HGB.out; omega))); have n4_ := Aside0.mk (Out.turn HO2.out hU (by have := HGB.out; have := HZ1.out; omega)); have HO3 := Aside0.mk (Kd.R_reads' ho).2.2; have HIX := Aside0.mk (And.intro hi hv); have n0_ := Aside0.mk ha; have n1_ := Aside0.mk (HV.out.kept hU (by have := H0.out; omega)); have n2_ := Aside0.mk (HB.out.trans (hU.below (by have := HGV.out; have := HGW.out; omega) HB.out.size)); have HZ3 := Aside0.mk hU.size; clear HV HW HB HO1 HO2 ho ha hU hi hv hn; have HW := n0_; have HV := n1_; have HB := n2_; have HO1 := n3_; have HO2 := n4_; clear n0_ n1_ n2_ n3_ n4_)
        | ((with_reducible refine gate_builtin (b := .append) (xs := #[.tmp 64, .tmp 67]) rfl ?_); at_builtin; (refine Kd.R_append_row (Value.int .i64) (0 : Int) (h1 := fun _ => rfl) (w0 := w3) w1.heap.size rfl (.tmp 64) (.tmp 67) 31 3 (.int .i64 0) 8 rfl Tryd.underlying31 info3 rfl (by decide) (.slice A2 (outs (view s) a').length c2) (outs (view s) a') (outs (view sw) b') A3 (outs (view sw) b').length c3 (fun k => w1.heap.size ≤ k) rfl rfl ?aF ?aO ?aR ?aB ?aS ?aL ?_); (case aF => exact fun k hk => Nat.le_trans (Nat.le_trans HZ2.out HZ3.out) hk); (case aO => exact HO2.out); (case aR => exact HO3.out); (case aB => exact Below.refl _ _); (case aS => exact Nat.le_trans HZ2.out HZ3.out); (case aL => have := outs_len (view s) a'; have := outs_len (view sw) b'; have := HN2.out; omega); (intro v4 w4 ho hb hg hat); (obtain ⟨A4, c4, e1_⟩ := Kd.R_slice ho; subst e1_; have C4 := Aside0.mk (out_sum ho); have C1 := Aside0.mk (Kd.R_reads' (Kd.R_step HO1.out (fun k hk hlt => hb.block k hk.2))); have HE := Aside0.mk (ends_agree HIV.out HIW.out HIX.out); have n0_ := Aside0.mk (HV.out.own hb (by have := HGB.out; have := HZ1.out; omega)); have n1_ := Aside0.mk (HW.out.own hb (by have := HGB.out; have := HZ1.out; omega)); have n2_ := Aside0.mk (HB.out.trans (hb.mono (by have := HGB.out; have := HZ1.out; have := HGV.out; omega))); clear HV HW HB HO1 HO2 HO3 ho hb hg hat; have HV := n0_; have HW := n1_; have HB := n2_; clear n0_ n1_ n2_; have HL4 := Aside0.mk (show (outs (view s) (a' + b')).length < 9223372036854775807 by have := outs_len (view s) (a' + b'); have := HN2.out; omega)))
        | (go_at_call 14; (with_reducible refine (same_yes _ A1 A4 c1 c4 _ _ _ _ C1.out.2.2 C1.out.2.1 C4.out.2.2 C4.out.2.1 HE.out.1 HL4.out).mono ?_); rintro e w5 ⟨rfl, hd⟩; have n0_ := Aside0.mk (HV.out.drawn hd); have n1_ := Aside0.mk (HW.out.drawn hd); have n2_ := Aside0.mk (HB.out.trans (below_drawn _ hd)); clear HV HW HB hd C1 C4; have HV := n0_; have HW := n1_; have HB := n2_; clear n0_ n1_ n2_)
        | (go_at_call 18; (with_reducible refine (len_g _ gv sv _ HV.out HIV.out.1.good.set HE.out.2.1).mono ?_); rintro e w5 ⟨rfl, hd⟩; have n0_ := Aside0.mk (HV.out.drawn hd); have n1_ := Aside0.mk (HW.out.drawn hd); have n2_ := Aside0.mk (HB.out.trans (below_drawn _ hd)); clear HV HW HB hd; have HV := n0_; have HW := n1_; have HB := n2_; clear n0_ n1_ n2_)
        | (go_at_call 18; (with_reducible refine (len_g _ gw sx _ HW.out HIX.out.1.good.set rfl).mono ?_); rintro e w5 ⟨rfl, hd⟩; have n0_ := Aside0.mk (HV.out.drawn hd); have n1_ := Aside0.mk (HW.out.drawn hd); have n2_ := Aside0.mk (HB.out.trans (below_drawn _ hd)); clear HV HW HB hd; have HV := n0_; have HW := n1_; have HB := n2_; clear n0_ n1_ n2_))
      go_loopg [80] 17 (fun kq v80 w' => ∃ i : Nat, v80 = .int .i64 (i : Int) ∧ Aside0 (kq + i = 17 ∧ i ≤ 16) ∧ Aside0 (At w' gv sv ∧ At w' gw sx) ∧ Aside0 (Below w.heap.size w w'))
      case atStart => exact ⟨0, rfl, ⟨by omega⟩, ⟨HV.out, HW.out⟩, HB⟩
      case round =>
        clear HV HW HB HK
        obtain ⟨j, rfl, HK, HS, HB⟩ := hrel
        have HV := Aside0.mk HS.out.1
        have HW := Aside0.mk HS.out.2
        clear HS
        by_cases hj : j < 16
        · have b0 : decide ((j : Int) < 16) = true := decide_eq_true (by omega)
          have dw : wrap64 ((j : Int) + 1) = ((j + 1 : Nat) : Int) := by rw [w64 (by omega) (by omega)]; omega
          have HJ := Aside0.mk hj
          clear hj
          obtain ⟨L, hL⟩ : ∃ L, left sv (j : Int) = L := ⟨_, rfl⟩
          have HL1 := Aside0.mk hL
          have HL2 := Aside0.mk ((HE.out.2.2 (j : Int)).symm.trans hL)
          clear hL
          go_wp2_with (first
            | (go_at_call 10; (with_reducible refine (left_g _ gv (j : Int) L sv HV.out HIV.out.1.good.set HL1.out).mono ?_); rintro e w5 ⟨rfl, hd⟩; have n0_ := Aside0.mk (HV.out.drawn hd); have n1_ := Aside0.mk (HW.out.drawn hd); have n2_ := Aside0.mk (HB.out.trans (below_drawn _ hd)); clear HV HW HB hd; have HV := n0_; have HW := n1_; have HB := n2_; clear n0_ n1_ n2_)
            | (go_at_call 10; (with_reducible refine (left_g _ gw (j : Int) L sx HW.out HIX.out.1.good.set HL2.out).mono ?_); rintro e w5 ⟨rfl, hd⟩; have n0_ := Aside0.mk (HV.out.drawn hd); have n1_ := Aside0.mk (HW.out.drawn hd); have n2_ := Aside0.mk (HB.out.trans (below_drawn _ hd)); clear HV HW HB hd; have HV := n0_; have HW := n1_; have HB := n2_; clear n0_ n1_ n2_))
          go_roundg (gk - 1)
          case measure => have := HK.out; have := HJ.out; omega
          case rel => exact ⟨j + 1, by first | rw [dw] | simp, ⟨by have := HK.out; have := HJ.out; omega⟩, ⟨HV.out, HW.out⟩, HB⟩
        · have b0 : decide ((j : Int) < 16) = false := decide_eq_false (by omega)
          clear hj
          go_wp2
          go_ret
          exact ⟨rfl, HB.out⟩
theorem skips_early (w : World) (ht : Tabs w) (A : Option Addr) (c n : Nat) (a b : Int) (h : ¬ (n ≤ 16 ∧ 0 ≤ a ∧ 0 ≤ b ∧ a ≤ 2000 ∧ b ≤ 2000)) (hn : n ≤ maxLen) :
    Calls Tryd.prog 5 #[.slice A n c, .int .i64 a, .int .i64 b] w fun e w' => e = .returned (.bool true) ∧ Below w.heap.size w w' := by
  have HAw := Aside0.mk (awake_f w ht)
  have HN := Aside0.mk hn
  clear ht hn
  by_cases e0 : 16 < (n : Int)
  · have d0 := decide_eq_true e0
    clear h e0
    go_enter Tryd.func5, Tryd.ntmps5
    go_wp2_with (go_at_call 6; refine HAw.out.mono ?_; rintro e w' ⟨rfl, hb⟩; have HB := Aside0.mk hb; clear hb HAw)
    go_ret
    exact ⟨rfl, HB.out⟩
  · by_cases e1 : a < 0
    · have d1 := decide_eq_true e1
      have d0 := decide_eq_false e0
      clear h e0 e1
      go_enter Tryd.func5, Tryd.ntmps5
      go_wp2_with (go_at_call 6; refine HAw.out.mono ?_; rintro e w' ⟨rfl, hb⟩; have HB := Aside0.mk hb; clear hb HAw)
      go_ret
      exact ⟨rfl, HB.out⟩
    · by_cases e2 : b < 0
      · have d2 := decide_eq_true e2
        have d0 := decide_eq_false e0
        have d1 := decide_eq_false e1
        clear h e0 e1 e2
        go_enter Tryd.func5, Tryd.ntmps5
        go_wp2_with (go_at_call 6; refine HAw.out.mono ?_; rintro e w' ⟨rfl, hb⟩; have HB := Aside0.mk hb; clear hb HAw)
        go_ret
        exact ⟨rfl, HB.out⟩
      · by_cases e3 : 2000 < a
        · have d3 := decide_eq_true e3
          have d0 := decide_eq_false e0
          have d1 := decide_eq_false e1
          have d2 := decide_eq_false e2
          clear h e0 e1 e2 e3
          go_enter Tryd.func5, Tryd.ntmps5
          go_wp2_with (go_at_call 6; refine HAw.out.mono ?_; rintro e w' ⟨rfl, hb⟩; have HB := Aside0.mk hb; clear hb HAw)
          go_ret
          exact ⟨rfl, HB.out⟩
        · by_cases e4 : 2000 < b
          · have d4 := decide_eq_true e4
            have d0 := decide_eq_false e0
            have d1 := decide_eq_false e1
            have d2 := decide_eq_false e2
            have d3 := decide_eq_false e3
            clear h e0 e1 e2 e3 e4
            go_enter Tryd.func5, Tryd.ntmps5
            go_wp2_with (go_at_call 6; refine HAw.out.mono ?_; rintro e w' ⟨rfl, hb⟩; have HB := Aside0.mk hb; clear hb HAw)
            go_ret
            exact ⟨rfl, HB.out⟩
          · exact absurd ⟨by omega, by omega, by omega, by omega, by omega⟩ h
theorem skips_all (w : World) (ht : Tabs w) (A : Option Addr) (c : Nat) (l : List Act3) (hl : Acts w A l) (a b : Int) (hn : l.length ≤ maxLen) :
    Calls Tryd.prog 5 #[.slice A l.length c, .int .i64 a, .int .i64 b] w fun e w' => e = .returned (.bool true) ∧ Below w.heap.size w w' := by
  by_cases h : l.length ≤ 16 ∧ 0 ≤ a ∧ 0 ≤ b ∧ a ≤ 2000 ∧ b ≤ 2000
  · exact skips_walk w ht A c l hl l.length rfl a b h.1 h.2.1 h.2.2.1 h.2.2.2.1 h.2.2.2.2
  · exact skips_early w ht A c l.length a b h hn
end Go.Proofs.YtbpjcgahdgpmhaaDoor.Whl
