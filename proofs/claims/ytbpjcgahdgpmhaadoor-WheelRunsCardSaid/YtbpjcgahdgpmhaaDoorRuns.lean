/- The law's function WheelRuns answers true: the walk. Conditions: the list of acts reads as told, the table of math/bits as laid. -/
import Derived.Test.YtbpjcgahdgpmhaaDoorWheel10
import Derived.Deep.RegionHeldLaw
namespace Go.Proofs.YtbpjcgahdgpmhaaDoor.Whl
open Go.RowKit Go.Proofs.YtbpjcgahdgpmhaaDoorW.PrintWords Go.Proofs.YtbpjcgahdgpmhaaDoorW.PrintLast Go.Proofs.YtbpjcgahdgpmhaaDoorW.PrintMore
attribute [local go_sem] max2_int min2_int max_two min_two
set_option linter.unusedVariables false
theorem ref_new (w : World) : Ref (w.alloc (.cells #[.int .i64 0, .int .i64 0, .int .i64 0, .int .i64 0, .int .i64 0, .int .i64 0, .int .i64 0, .int .i64 0, .int .i64 0, .int .i64 0, .int .i64 0, .int .i64 0, .int .i64 0, .int .i64 0, .int .i64 0, .int .i64 0] 36)) w.heap.size (fun _ => 0) := by
  have hb : ∀ (c : Array Value) (t : TypeId), (w.alloc (.cells c t)).heap[w.heap.size]? = some (.cells c t) := fun c t => by
    rw [show (w.alloc (.cells c t)).heap = w.heap.push (.cells c t) from rfl, Array.getElem?_push, if_pos rfl]
  refine ⟨fun j hj => (blk_cell (hb _ _) j).trans ?_, fun j hj => ?_⟩
  · rcases j with _ | _ | _ | _ | _ | _ | _ | _ | _ | _ | _ | _ | _ | _ | _ | _ | j
    all_goals first | rfl | omega
  · simp only [World.frozen?, hb]
    simp
set_option maxRecDepth 100000 in
set_option maxHeartbeats 2000000 in
theorem runs_walk (w : World) (ht : Tabs w) (A : Option Addr) (c : Nat) (l : List Act3) (hl : Acts w A l) (hg : ∀ x ∈ l, gA x) (n : Nat) (hln : l.length = n) (h1 : n ≤ 40) :
    Calls Tryd.prog 4 #[.slice A n c] w fun e w' => e = .returned (.bool true) ∧ Below w.heap.size w w' := by
  have HAw := Aside0.mk (awake_f w ht)
  have HACT := Aside0.mk hl
  have HG := Aside0.mk hg
  have HLN := Aside0.mk hln
  have HT := Aside0.mk ht
  have HAB := Aside0.mk h1
  have d1 : decide (40 < (n : Int)) = false := decide_eq_false (by omega)
  clear h1 hl hln ht hg
  go_enter Tryd.func4, Tryd.ntmps4
  go_wp2_with (first | (go_at_call 6; refine HAw.out.mono ?_; rintro e w0 ⟨rfl, hb⟩; have HB := Aside0.mk hb; clear hb HAw) | (go_at_call 7; refine (new2 _).mono ?_; rintro e w1 ⟨gv, rfl, hg1, hg2, ha, hb⟩; have HV := Aside0.mk ha; have HGV := Aside0.mk (show w.heap.size ≤ gv ∧ gv < w1.heap.size from ⟨Nat.le_trans HB.out.size hg1, hg2⟩); have n0_ := Aside0.mk (HB.out.trans (hb.mono HB.out.size)); clear HB ha hg1 hg2 hb; have HB := n0_; clear n0_))
  have hbn := ref_new w1
  have hbs : w1.heap.size < (w1.alloc (.cells #[.int .i64 0, .int .i64 0, .int .i64 0, .int .i64 0, .int .i64 0, .int .i64 0, .int .i64 0, .int .i64 0, .int .i64 0, .int .i64 0, .int .i64 0, .int .i64 0, .int .i64 0, .int .i64 0, .int .i64 0, .int .i64 0] 36)).heap.size := laid_lt _ _
  have hbb : Below w1.heap.size w1 (w1.alloc (.cells #[.int .i64 0, .int .i64 0, .int .i64 0, .int .i64 0, .int .i64 0, .int .i64 0, .int .i64 0, .int .i64 0, .int .i64 0, .int .i64 0, .int .i64 0, .int .i64 0, .int .i64 0, .int .i64 0, .int .i64 0, .int .i64 0] 36)) := (Below.refl _ _).alloc (Nat.le_refl _) _
  generalize w1.alloc (.cells #[.int .i64 0, .int .i64 0, .int .i64 0, .int .i64 0, .int .i64 0, .int .i64 0, .int .i64 0, .int .i64 0, .int .i64 0, .int .i64 0, .int .i64 0, .int .i64 0, .int .i64 0, .int .i64 0, .int .i64 0, .int .i64 0] 36) = W1 at *
  have HS := Aside0.mk (show Both W1 gv w1.heap.size none_ (fun _ => 0) from ⟨HV.out.own hbb HGV.out.2, hbn, none_inv, fun n _ => none_view n⟩)
  have HBW := Aside0.mk (HB.out.trans (hbb.mono HB.out.size))
  have HGX := Aside0.mk (show gv < w1.heap.size ∧ w.heap.size ≤ w1.heap.size from ⟨HGV.out.2, HB.out.size⟩)
  clear hbn hbs hbb HV HB
  obtain ⟨gx, hgx⟩ : ∃ gx, w1.heap.size = gx := ⟨_, rfl⟩
  have HGW := Aside0.mk (show w.heap.size ≤ gv by have := HGV.out; omega)
  rw [hgx] at HS HGX ⊢
  clear HGV hgx
  go_loopg [5, 22] 41 (fun kq v5 v22 w' => ∃ (i : Nat) (T : Int) (s : Wh) (x : Nat → Int), v5 = .int .i64 T ∧ v22 = .int .i64 (i : Int) ∧ Aside0 (kq + i = 41 ∧ i ≤ n) ∧ Aside0 (0 ≤ T ∧ T ≤ 30000 ∧ s.now ≤ T + i) ∧ Aside0 (Both w' gv gx s x) ∧ Aside0 (Below w.heap.size w w'))
  case atStart => exact ⟨0, 0, none_, fun _ => 0, rfl, rfl, ⟨by have := HAB.out; omega⟩, ⟨by show (0 : Int) ≤ 0 ∧ (0 : Int) ≤ 30000 ∧ (0 : Int) ≤ _; omega⟩, HS, HBW⟩
  case round =>
    clear HS HBW
    obtain ⟨i, T, s, x, rfl, rfl, HK, HTT, HS, HB2⟩ := hrel
    by_cases hi : i < n
    · obtain ⟨ad, rfl, x1, x2, x3⟩ := (HACT.out.below HB2.out).el i (by have := HLN.out; omega)
      obtain ⟨⟨g1, g1'⟩, ⟨g2, g2'⟩, ⟨g3, g3'⟩⟩ := gA_rng (gA_get HG.out i)
      have d6 : decide ((i : Int) < (n : Int)) = true := decide_eq_true (by omega)
      have d7 : (i : Int) < (n : Int) := by omega
      have d8 : 0 ≤ (i : Int) := by omega
      have HI := Aside0.mk hi
      have dw : wrap64 ((i : Int) + 1) = ((i + 1 : Nat) : Int) := by rw [w64 (by omega) (by have := HAB.out; omega)]; omega
      have HDW := Aside0.mk dw
      clear hi dw
      generalize l.getD i (0, 0, 0) = el at x1 x2 x3 g1 g1' g2 g2' g3 g3'
      obtain ⟨what, id, t⟩ := el
      simp only at x1 x2 x3 g1 g1' g2 g2' g3 g3'
      have HT3 := Aside0.mk (And.intro g3 g3')
      have hr : what % 4 = 0 ∨ what % 4 = 1 ∨ what % 4 = 2 ∨ what % 4 = 3 := by omega
      clear g1' g2 g2' g3 g3'
      rcases hr with hr | hr | hr | hr
      · go_wp2_with fail
        have HE := act_new wr (.int .u8 what) (.int .i64 id) (.int .i64 t) 28
        have HBa : Below wr.heap.size wr (wr.alloc (.cells #[.int .u8 what, .int .i64 id, .int .i64 t] 28)) := (Below.refl _ _).alloc (Nat.le_refl _) _
        have hgv : gv < wr.heap.size := HS.out.v.in
        have hgx : gx < wr.heap.size := HS.out.r.in
        have HBo := Aside0.mk (HS.out.own HBa hgv hgx)
        have HBB := Aside0.mk (HB2.out.trans (HBa.mono HB2.out.size))
        obtain ⟨e0, e1, e2⟩ := HE
        have hne := Aside0.mk (show gv ≠ gx ∧ wr.heap.size ≠ gv ∧ wr.heap.size ≠ gx by have := HGX.out; omega)
        have HSZ := Aside0.mk (laid_lt wr (.cells #[.int .u8 what, .int .i64 id, .int .i64 t] 28))
        have HGE := Aside0.mk (show gv < wr.heap.size ∧ gx < wr.heap.size ∧ w.heap.size ≤ wr.heap.size ∧ w.heap.size ≤ gx from ⟨hgv, hgx, HB2.out.size, HGX.out.2⟩)
        clear x1 x2 x3 hgv hgx HBa HS HB2
        generalize wr.alloc (.cells #[.int .u8 what, .int .i64 id, .int .i64 t] 28) = W0 at *
        generalize wr.heap.size = E at *
        clear hr
        have HV0 := Aside0.mk (HBo.out.v.drawn (w' := W0.drew) ⟨1, rfl⟩)
        have HX0 := Aside0.mk (HBo.out.r.drawn (w' := W0.drew) ⟨1, rfl⟩)
        have m2_ := Aside0.mk (HBB.out.trans (show Below w.heap.size W0 W0.drew from ⟨rfl, rfl, rfl, Nat.le_refl _, fun _ _ => rfl⟩))
        have m3_ := Aside0.mk (show E < W0.drew.heap.size from HSZ.out)
        clear HBB HSZ
        have HBB := m2_
        have HSZ := m3_
        clear m2_ m3_
        go_region_held_law (fun w' => w'.cell? ⟨E, 1, none⟩ = some (.int .i64 id) ∧ w'.cell? ⟨E, 2, none⟩ = some (.int .i64 t)) (first | assumption | exact ⟨e1, e2⟩) (first | (go_at_call 8; (with_reducible refine (set_f _ gv id t s ?ha HBo.out.inv).mono ?_); (case ha => exact HV0.out); rintro e w' ⟨rfl, ha, hU⟩; have n0_ := Aside0.mk ha; have n1_ := Aside0.mk (HX0.out.kept hU (Ne.symm hne.out.1)); have n2_ := Aside0.mk (HBB.out.trans (hU.below HGW.out HBB.out.size)); have f1 := (World.cell?_of_block (a := ⟨E, 1, none⟩) (hU.block E HSZ.out hne.out.2.1)).trans e1; have f2 := (World.cell?_of_block (a := ⟨E, 2, none⟩) (hU.block E HSZ.out hne.out.2.1)).trans e2; have n3_ := Aside0.mk (Nat.lt_of_lt_of_le HSZ.out hU.size); clear HV0 HX0 HBB HSZ e1 e2 ha hU; have HV0 := n0_; have HX0 := n1_; have HBB := n2_; have HSZ := n3_; clear n0_ n1_ n2_ n3_; have e1 := f1; have e2 := f2; clear f1 f2) | (go_at_call 12; (with_reducible refine (rset_f _ gx id t x ?ha).mono ?_); (case ha => exact HX0.out); rintro e w' ⟨rfl, ha, hU⟩; have n0_ := Aside0.mk ha; have n1_ := Aside0.mk (HV0.out.kept hU hne.out.1); have n2_ := Aside0.mk (HBB.out.trans (hU.below HGX.out.2 HBB.out.size)); have f1 := (World.cell?_of_block (a := ⟨E, 1, none⟩) (hU.block E HSZ.out hne.out.2.2)).trans e1; have f2 := (World.cell?_of_block (a := ⟨E, 2, none⟩) (hU.block E HSZ.out hne.out.2.2)).trans e2; have n3_ := Aside0.mk (Nat.lt_of_lt_of_le HSZ.out hU.size); clear HV0 HX0 HBB HSZ e1 e2 ha hU; have HX0 := n0_; have HV0 := n1_; have HBB := n2_; have HSZ := n3_; clear n0_ n1_ n2_ n3_; have e1 := f1; have e2 := f2; clear f1 f2))
        have m0_ := Aside0.mk (Both.mk HV0.out HX0.out (seti_inv HBo.out.inv id t).1 (set_eq HBo.out.inv HBo.out.eq id t))
        have HNW := Aside0.mk (seti_inv HBo.out.inv id t).2.1
        clear HBo HV0 HX0
        have HBo := m0_
        clear m0_
        go_wp2_with (go_at_call 17; (with_reducible refine (alike_v _ gv gx _ _ HBo.out).mono ?_); rintro e w9 ⟨rfl, hd⟩; have n0_ := Aside0.mk (HBo.out.drawn hd); have n1_ := Aside0.mk (HBB.out.trans (below_drawn _ hd)); clear HBo HBB hd; have HBo := n0_; have HBB := n1_; clear n0_ n1_)
        go_roundg (gk - 1)
        case measure => have := HK.out; have := HI.out; have := HAB.out; omega
        case rel => exact ⟨i + 1, T, _, _, rfl, by rw [HDW.out], ⟨by have := HK.out; have := HI.out; have := HAB.out; omega⟩, ⟨by rw [HNW.out]; have := HTT.out; omega⟩, HBo, HBB⟩
      · go_wp2_with fail
        have HE := act_new wr (.int .u8 what) (.int .i64 id) (.int .i64 t) 28
        have HBa : Below wr.heap.size wr (wr.alloc (.cells #[.int .u8 what, .int .i64 id, .int .i64 t] 28)) := (Below.refl _ _).alloc (Nat.le_refl _) _
        have hgv : gv < wr.heap.size := HS.out.v.in
        have hgx : gx < wr.heap.size := HS.out.r.in
        have HBo := Aside0.mk (HS.out.own HBa hgv hgx)
        have HBB := Aside0.mk (HB2.out.trans (HBa.mono HB2.out.size))
        obtain ⟨e0, e1, e2⟩ := HE
        have hne := Aside0.mk (show gv ≠ gx ∧ wr.heap.size ≠ gv ∧ wr.heap.size ≠ gx by have := HGX.out; omega)
        have HSZ := Aside0.mk (laid_lt wr (.cells #[.int .u8 what, .int .i64 id, .int .i64 t] 28))
        have HGE := Aside0.mk (show gv < wr.heap.size ∧ gx < wr.heap.size ∧ w.heap.size ≤ wr.heap.size ∧ w.heap.size ≤ gx from ⟨hgv, hgx, HB2.out.size, HGX.out.2⟩)
        clear x1 x2 x3 hgv hgx HBa HS HB2
        generalize wr.alloc (.cells #[.int .u8 what, .int .i64 id, .int .i64 t] 28) = W0 at *
        generalize wr.heap.size = E at *
        clear hr
        by_cases hw : 0 < rleft x id
        · have b0 : decide (0 < rleft x id) = true := decide_eq_true hw
          obtain ⟨m, rfl, hm, _⟩ := rleft_pos hw
          have k1 : (m : Int) < 16 := by omega
          have k2 : 0 ≤ (m : Int) := by omega
          have HM := Aside0.mk hm
          clear hw hm
          generalize hL : rleft x (m : Int) = L at *
          have HL := Aside0.mk hL
          clear hL
          go_wp2_with (go_at_call 13; (with_reducible refine (rleft_g _ gx (m : Int) L x HBo.out.r HL.out).mono ?_); rintro e w3 ⟨rfl, hd⟩; have f1 := (drawn_cell hd ⟨E, 1, none⟩).trans e1; have n0_ := Aside0.mk (HBo.out.drawn hd); have n1_ := Aside0.mk (HBB.out.trans (below_drawn _ hd)); have n2_ := Aside0.mk (show E < w3.heap.size by rw [drawn_size hd]; exact HSZ.out); clear HBo HBB HSZ e0 e1 e2; have HBo := n0_; have HBB := n1_; have HSZ := n2_; have e1 := f1; have hc := HBo.out.r.cell m HM.out; have hf := HBo.out.r.live m HM.out; clear n0_ n1_ n2_ f1 hd)
          go_region
          have hU : Turn gx w3 (w3.setCell ⟨gx, m, none⟩ (.int .i64 0)).drew := ((Turn.refl gx w3).setCell _ rfl _).drew
          have HX0 := Aside0.mk ((HBo.out.r.put m HM.out 0).drawn (w' := (w3.setCell ⟨gx, m, none⟩ (.int .i64 0)).drew) ⟨1, rfl⟩)
          have HV0 := Aside0.mk (HBo.out.v.kept hU hne.out.1)
          have m2_ := Aside0.mk (HBB.out.trans (hU.below HGX.out.2 HBB.out.size))
          have f1 := (World.cell?_of_block (a := ⟨E, 1, none⟩) (hU.block E HSZ.out hne.out.2.2)).trans e1
          have HIE := Aside0.mk (And.intro HBo.out.inv HBo.out.eq)
          clear HBo HBB e1 hc hf hU
          have HBB := m2_
          clear m2_
          generalize (w3.setCell ⟨gx, m, none⟩ (.int .i64 0)).drew = W4 at *
          go_wp2_with (first | (go_at_call 9; (with_reducible refine (cancel_x _ gv (m : Int) s x true HV0.out HIE.out.1 HIE.out.2 (by rw [HL.out]; exact b0)).mono ?_); rintro e w5 ⟨rfl, ha, hU⟩; have n0_ := Aside0.mk (Both.mk ha (HX0.out.kept hU (Ne.symm hne.out.1)) (canc_yes HIE.out.1 HIE.out.2 m HM.out).1 (canc_yes HIE.out.1 HIE.out.2 m HM.out).2.1); have n1_ := Aside0.mk (HBB.out.trans (hU.below HGW.out HBB.out.size)); have HNW := Aside0.mk (canc_yes HIE.out.1 HIE.out.2 m HM.out).2.2; clear HV0 HX0 HBB ha hU; have HBo := n0_; have HBB := n1_; clear n0_ n1_) | (go_at_call 17; (with_reducible refine (alike_v _ gv gx _ _ HBo.out).mono ?_); rintro e w9 ⟨rfl, hd⟩; have n0_ := Aside0.mk (HBo.out.drawn hd); have n1_ := Aside0.mk (HBB.out.trans (below_drawn _ hd)); clear HBo HBB hd; have HBo := n0_; have HBB := n1_; clear n0_ n1_))
          go_roundg (gk - 1)
          case measure => have := HK.out; have := HI.out; have := HAB.out; omega
          case rel => exact ⟨i + 1, T, _, _, rfl, by rw [HDW.out], ⟨by have := HK.out; have := HI.out; have := HAB.out; omega⟩, ⟨by rw [HNW.out]; have := HTT.out; omega⟩, HBo, HBB⟩
        · have b0 : decide (0 < rleft x id) = false := decide_eq_false hw
          have HW := Aside0.mk hw
          clear hw
          obtain ⟨L, hL⟩ : ∃ L, rleft x id = L := ⟨_, rfl⟩
          have HL := Aside0.mk hL
          rw [hL] at b0
          clear hL
          go_wp2_with (first | (go_at_call 13; (with_reducible refine (rleft_g _ gx id L x HBo.out.r HL.out).mono ?_); rintro e w3 ⟨rfl, hd⟩; have f1 := (drawn_cell hd ⟨E, 1, none⟩).trans e1; have n0_ := Aside0.mk (HBo.out.drawn hd); have n1_ := Aside0.mk (HBB.out.trans (below_drawn _ hd)); clear HBo HBB e0 e1 e2; have HBo := n0_; have HBB := n1_; have e1 := f1; clear n0_ n1_ f1 hd) | (go_at_call 9; (with_reducible refine (cancel_x _ gv id s x false HBo.out.v HBo.out.inv HBo.out.eq (by rw [HL.out]; exact b0)).mono ?_); rintro e w5 ⟨rfl, ha, hU⟩; rw [canc_no HBo.out.inv HBo.out.eq id (Int.not_lt.2 HW.out)] at ha; have n0_ := Aside0.mk (Both.mk ha (HBo.out.r.kept hU (Ne.symm hne.out.1)) HBo.out.inv HBo.out.eq); have n1_ := Aside0.mk (HBB.out.trans (hU.below HGW.out HBB.out.size)); clear HBo HBB ha hU; have HBo := n0_; have HBB := n1_; clear n0_ n1_) | (go_at_call 17; (with_reducible refine (alike_v _ gv gx _ _ HBo.out).mono ?_); rintro e w9 ⟨rfl, hd⟩; have n0_ := Aside0.mk (HBo.out.drawn hd); have n1_ := Aside0.mk (HBB.out.trans (below_drawn _ hd)); clear HBo HBB hd; have HBo := n0_; have HBB := n1_; clear n0_ n1_))
          go_roundg (gk - 1)
          case measure => have := HK.out; have := HI.out; have := HAB.out; omega
          case rel => exact ⟨i + 1, T, _, _, rfl, by rw [HDW.out], ⟨by have := HK.out; have := HI.out; have := HAB.out; omega⟩, ⟨by have := HTT.out; omega⟩, HBo, HBB⟩
      · go_wp2_with fail
        have HE := act_new wr (.int .u8 what) (.int .i64 id) (.int .i64 t) 28
        have HBa : Below wr.heap.size wr (wr.alloc (.cells #[.int .u8 what, .int .i64 id, .int .i64 t] 28)) := (Below.refl _ _).alloc (Nat.le_refl _) _
        have hgv : gv < wr.heap.size := HS.out.v.in
        have hgx : gx < wr.heap.size := HS.out.r.in
        have HBo := Aside0.mk (HS.out.own HBa hgv hgx)
        have HBB := Aside0.mk (HB2.out.trans (HBa.mono HB2.out.size))
        obtain ⟨e0, e1, e2⟩ := HE
        have hne := Aside0.mk (show gv ≠ gx ∧ wr.heap.size ≠ gv ∧ wr.heap.size ≠ gx by have := HGX.out; omega)
        have HSZ := Aside0.mk (laid_lt wr (.cells #[.int .u8 what, .int .i64 id, .int .i64 t] 28))
        have HGE := Aside0.mk (show gv < wr.heap.size ∧ gx < wr.heap.size ∧ w.heap.size ≤ wr.heap.size ∧ w.heap.size ≤ gx from ⟨hgv, hgx, HB2.out.size, HGX.out.2⟩)
        clear x1 x2 x3 hgv hgx HBa HS HB2
        generalize wr.alloc (.cells #[.int .u8 what, .int .i64 id, .int .i64 t] 28) = W0 at *
        generalize wr.heap.size = E at *
        clear hr
        have HE := Aside0.mk (rout_congr' (view s) x HBo.out.eq)
        have HL1 := Aside0.mk (show (rout (view s) 16).length < 9223372036854775807 by have := rout_len (view s) 16; omega)
        have H0 := Aside0.mk (show 0 < w.heap.size from World.block_lt_of_cell? w _ (HT.out 0 (by decide)))
        have HGV0 := Aside0.mk (show 0 < gv ∧ s.now < 1000000000 by have := HGW.out; have := H0.out; have := HTT.out; have := HK.out; have := HAB.out; omega)
        have HRG := Aside0.mk HBo.out.rng
        clear e0 e1 e2
        go_wp2_with (first | (go_at_call 11; (with_reducible refine (tickv_f _ gv s HBo.out.v HGV0.out.1 HBo.out.inv HGV0.out.2 (HT.out.below HBB.out H0.out)).mono ?_); rintro e w3 ⟨v1, s1, rfl, ho, ha, hU, hi, hv, hn⟩; obtain ⟨A1, c1, e1_⟩ := Kd.R_slice ho; subst e1_; have HO1 := Aside0.mk ho.lim; have HI1 := Aside0.mk (And.intro hi (And.intro hv hn)); have HV0 := Aside0.mk ha; have HX0 := Aside0.mk (HBo.out.r.kept hU (Ne.symm hne.out.1)); have HEQ := Aside0.mk HBo.out.eq; have n1_ := Aside0.mk (HBB.out.trans (hU.below HGW.out HBB.out.size)); clear HBo HBB ho ha hU hi hv hn; have HBB := n1_; clear n1_) | (go_at_call 15; (with_reducible refine (rtick_f _ gx x HX0.out HRG.out).mono ?_); rintro e w4 ⟨v2, rfl, ho, hr, hU⟩; obtain ⟨A2, c2, e1_⟩ := Kd.R_slice ho; subst e1_; have C1 := Aside0.mk (Kd.R_reads' (Kd.R_step HO1.out (fun k hk hlt => hU.block k hlt (by have := HGE.out; have := HSZ.out; omega)))); have C2 := Aside0.mk (out_reads ho); have n0_ := Aside0.mk (Both.mk (HV0.out.kept hU hne.out.1) hr HI1.out.1 (fun n hn => by rw [HI1.out.2.1 n hn, HEQ.out n hn, rst_dec x n hn])); have n1_ := Aside0.mk (HBB.out.trans (hU.below HGX.out.2 HBB.out.size)); clear HV0 HX0 HBB ho hr hU HO1; have HBo := n0_; have HBB := n1_; clear n0_ n1_) | (go_at_call 14; (with_reducible refine (same_yes _ A1 A2 c1 c2 _ _ _ _ C1.out.2.2 C1.out.2.1 C2.out.2.2 C2.out.2.1 HE.out HL1.out).mono ?_); rintro e w5 ⟨rfl, hd⟩; have n0_ := Aside0.mk (HBo.out.drawn hd); have n1_ := Aside0.mk (HBB.out.trans (below_drawn _ hd)); clear HBo HBB hd; have HBo := n0_; have HBB := n1_; clear n0_ n1_) | (go_at_call 17; (with_reducible refine (alike_v _ gv gx _ _ HBo.out).mono ?_); rintro e w9 ⟨rfl, hd⟩; have n0_ := Aside0.mk (HBo.out.drawn hd); have n1_ := Aside0.mk (HBB.out.trans (below_drawn _ hd)); clear HBo HBB hd; have HBo := n0_; have HBB := n1_; clear n0_ n1_))
        go_roundg (gk - 1)
        case measure => have := HK.out; have := HI.out; have := HAB.out; omega
        case rel => exact ⟨i + 1, T, _, _, rfl, by rw [HDW.out], ⟨by have := HK.out; have := HI.out; have := HAB.out; omega⟩, ⟨by have := HTT.out; have := HI1.out.2.2; omega⟩, HBo, HBB⟩
      · obtain ⟨M, hM⟩ : ∃ M : Int, (if t < 0 then (0 : Int) else t) = M := ⟨_, rfl⟩
        have hM0 : 0 ≤ M := by rw [← hM]; split <;> omega
        obtain ⟨N, hN⟩ : ∃ N : Nat, (if (20000 : Int) < M then (20000 : Int) else M) = N := by
          refine ⟨(if (20000 : Int) < M then (20000 : Int) else M).toNat, ?_⟩
          split <;> omega
        have HNN := Aside0.mk (show N ≤ 20000 ∧ (mn t 20000).toNat = N by
          unfold mn
          constructor
          · split at hN <;> omega
          · split at hM <;> split at hN <;> split <;> omega)
        clear hM0
        have k1 : 0 ≤ T := HTT.out.1
        have k2 : T ≤ 30000 := HTT.out.2.1
        have k3 : (N : Int) ≤ 20000 := by have := HNN.out; omega
        by_cases hov : (30000 : Int) < T + N
        · have b0 : decide ((30000 : Int) < T + N) = true := decide_eq_true hov
          clear hov
          go_wp2_with fail
          go_ret
          exact ⟨rfl, HB2.out.trans ((Below.refl _ _).alloc HB2.out.size _)⟩
        · have b0 : decide ((30000 : Int) < T + N) = false := decide_eq_false hov
          have HOV := Aside0.mk hov
          clear hov
          obtain ⟨ko, rfl⟩ : ∃ k : Nat, k = gk := ⟨_, rfl⟩
          obtain ⟨wo, rfl⟩ : ∃ wo : World, wo = wr := ⟨_, rfl⟩
          go_wp2_with fail
          have HE := act_new wo (.int .u8 what) (.int .i64 id) (.int .i64 t) 28
          have HBa : Below wo.heap.size wo (wo.alloc (.cells #[.int .u8 what, .int .i64 id, .int .i64 t] 28)) := (Below.refl _ _).alloc (Nat.le_refl _) _
          have hgv : gv < wo.heap.size := HS.out.v.in
          have hgx : gx < wo.heap.size := HS.out.r.in
          have HBo := Aside0.mk (HS.out.own HBa hgv hgx)
          have HBB := Aside0.mk (HB2.out.trans (HBa.mono HB2.out.size))
          obtain ⟨e0, e1, e2⟩ := HE
          have hne := Aside0.mk (show gv ≠ gx ∧ wo.heap.size ≠ gv ∧ wo.heap.size ≠ gx by have := HGX.out; omega)
          have HSZ := Aside0.mk (laid_lt wo (.cells #[.int .u8 what, .int .i64 id, .int .i64 t] 28))
          have HGE := Aside0.mk (show gv < wo.heap.size ∧ gx < wo.heap.size ∧ w.heap.size ≤ wo.heap.size ∧ w.heap.size ≤ gx from ⟨hgv, hgx, HB2.out.size, HGX.out.2⟩)
          clear x1 x2 x3 hgv hgx HBa HS HB2
          generalize wo.alloc (.cells #[.int .u8 what, .int .i64 id, .int .i64 t] 28) = W0 at *
          generalize wo.heap.size = E at *
          clear hM hN b0 e0 e1
          obtain ⟨B, hB⟩ : ∃ B, W0.heap.size = B := ⟨_, rfl⟩
          have HBE := Aside0.mk (show E < B ∧ gv < B ∧ gx < B ∧ w.heap.size ≤ B by have := HGE.out; have := HSZ.out; omega)
          have HRG := Aside0.mk HBo.out.rng
          have HIE := Aside0.mk (And.intro HBo.out.inv HBo.out.eq)
          have HC2 := Aside0.mk e2
          have HBS := Aside0.mk (show B ≤ W0.heap.size by omega)
          have HS2 := Aside0.mk (show At W0 gv s ∧ Ref W0 gx (dn x 0) from ⟨HBo.out.v, HBo.out.r.congr fun n hn => (dn_zero x n (HRG.out n hn).1).symm⟩)
          clear e2 HBo hB HSZ
          go_loopg [11, 82] (N + 1) (fun kq v11 v82 w' => ∃ (k : Nat), v82 = .int .i64 (k : Int) ∧ Aside0 (kq + k = N + 1 ∧ k ≤ N) ∧ Aside0 (Out w' B v11 (outs x k)) ∧ Aside0 (At w' gv s ∧ Ref w' gx (dn x k)) ∧ Aside0 (Below w.heap.size w w') ∧ Aside0 (w'.cell? ⟨E, 2, none⟩ = some (.int .i64 t)) ∧ Aside0 (B ≤ w'.heap.size))
          case atStart => exact ⟨0, rfl, ⟨by omega⟩, ⟨Kd.R_nil _ _ _ _ _⟩, HS2, HBB, HC2, HBS⟩
          case round =>
            clear HS2 HBB HC2 HBS
            obtain ⟨k, rfl, HK2, HO, HS2, HBB, HC2, HBS⟩ := hrel
            by_cases hk : k < N
            · have b1 : decide (k < N) = true := decide_eq_true hk
              have dw : wrap64 ((k : Int) + 1) = ((k + 1 : Nat) : Int) := by rw [w64 (by omega) (by omega)]; omega
              have HDW2 := Aside0.mk dw
              have HKN := Aside0.mk hk
              clear hk dw
              obtain ⟨Ao, co, eo⟩ := Kd.R_slice HO.out
              subst eo
              go_wp2_with (first | (go_at_call 15; (with_reducible refine (rtick_dn _ gx k x HS2.out.2 HRG.out).mono ?_); rintro e w4 ⟨v2, rfl, ho, hr, hU⟩; obtain ⟨A2, c2, e1_⟩ := Kd.R_slice ho; subst e1_; have C2 := Aside0.mk (out_reads ho); have n0_ := Aside0.mk (And.intro (HS2.out.1.kept hU hne.out.1) hr); have n1_ := Aside0.mk (HBB.out.trans (hU.below HGX.out.2 HBB.out.size)); have n2_ := Aside0.mk (Out.turn HO.out hU HBE.out.2.2.1); have n3_ := Aside0.mk ((World.cell?_of_block (a := ⟨E, 2, none⟩) (hU.block E (Nat.lt_of_lt_of_le HBE.out.1 HBS.out) hne.out.2.2)).trans HC2.out); have n4_ := Aside0.mk (Nat.le_trans HBS.out hU.size); clear HS2 HBB HO HC2 HBS ho hr hU; have HS2 := n0_; have HBB := n1_; have HO := n2_; have HC2 := n3_; have HBS := n4_; clear n0_ n1_ n2_ n3_ n4_) | ((with_reducible refine gate_builtin (b := .append) (xs := #[.tmp 84, .tmp 86]) rfl ?_); at_builtin; (refine Kd.R_append_row (Value.int .i64) (0 : Int) (h1 := fun _ => rfl) (w0 := w4) B rfl (.tmp 84) (.tmp 86) 31 3 (.int .i64 0) 8 rfl Tryd.underlying31 info3 rfl (by decide) (.slice Ao (outs x k).length co) (outs x k) (rout (dn x k) 16) A2 (rout (dn x k) 16).length c2 (fun k => B ≤ k) rfl rfl ?aF ?aO ?aR ?aB ?aS ?aL ?_); (case aF => exact fun k hk => Nat.le_trans HBS.out hk); (case aO => exact HO.out); (case aR => exact C2.out.2.2); (case aB => exact Below.refl _ _); (case aS => exact HBS.out); (case aL => have := outs_len x k; have := rout_len (dn x k) 16; have := HNN.out; have := HKN.out; omega); (intro v5 w5 ho hb hg hat); (have n0_ := Aside0.mk (And.intro (HS2.out.1.own hb HBE.out.2.1) (HS2.out.2.own hb HBE.out.2.2.1)); have n1_ := Aside0.mk (HBB.out.trans (hb.mono HBE.out.2.2.2)); have n3_ := Aside0.mk ((hb.cell (p := ⟨E, 2, none⟩) HBE.out.1).trans HC2.out); have n4_ := Aside0.mk (Nat.le_trans HBS.out hb.size); have n2_ := Aside0.mk (show Out w5 B v5 (outs x (k + 1)) from ho); clear HS2 HBB HO HC2 HBS C2 ho hb hg hat; have HS2 := n0_; have HBB := n1_; have HO := n2_; have HC2 := n3_; have HBS := n4_; clear n0_ n1_ n2_ n3_ n4_)))
              go_roundg (gk - 1)
              case measure => have := HK2.out; have := HKN.out; omega
              case rel => exact ⟨k + 1, by first | rw [HDW2.out] | rfl | simp, ⟨by have := HK2.out; have := HKN.out; omega⟩, HO, HS2, HBB, HC2, HBS⟩
            · obtain rfl : k = N := by have := HK2.out; omega
              have b1 : decide (k < k) = false := decide_eq_false (by omega)
              clear hk
              obtain ⟨Ao, co, eo⟩ := Kd.R_slice HO.out
              subst eo
              have H0 := Aside0.mk (show 0 < w.heap.size from World.block_lt_of_cell? w _ (HT.out 0 (by decide)))
              have HGV0 := Aside0.mk (show 0 < gv ∧ s.now < 1000000000 by have := HGW.out; have := H0.out; have := HTT.out; have := HK.out; have := HAB.out; omega)
              have HE := Aside0.mk (outs_congr (view s) x HIE.out.2 k)
              have HL1 := Aside0.mk (show (outs (view s) k).length < 9223372036854775807 by have := outs_len (view s) k; have := HNN.out; omega)
              have e2 := HC2.out
              clear HC2
              go_wp2_with (first | (go_at_call 16; (with_reducible refine (skipm_f _ gv s t k HNN.out.2 HS2.out.1 HGV0.out.1 HIE.out.1 HGV0.out.2 HT3.out.1 (HT.out.below HBB.out H0.out)).mono ?_); rintro e w3 ⟨v1, s1, rfl, ho, ha, hU, hi, hv, hn⟩; obtain ⟨A1, c1, e1_⟩ := Kd.R_slice ho; subst e1_; have C1 := Aside0.mk (out_reads ho); have C2 := Aside0.mk (out_reads (Out.turn HO.out hU HBE.out.2.1)); have HI1 := Aside0.mk hn; have n0_ := Aside0.mk (Both.mk ha (HS2.out.2.kept hU (Ne.symm hne.out.1)) hi (fun n hn => by rw [hv n hn]; unfold dn; rw [HIE.out.2 n hn])); have n1_ := Aside0.mk (HBB.out.trans (hU.below HGW.out HBB.out.size)); clear HS2 HBB HO ho ha hU hi hv hn e2; have HBo := n0_; have HBB := n1_; clear n0_ n1_) | (go_at_call 14; (with_reducible refine (same_yes _ A1 Ao c1 co _ _ _ _ C1.out.2.2 C1.out.2.1 C2.out.2.2 C2.out.2.1 HE.out HL1.out).mono ?_); rintro e w5 ⟨rfl, hd⟩; have n0_ := Aside0.mk (HBo.out.drawn hd); have n1_ := Aside0.mk (HBB.out.trans (below_drawn _ hd)); clear HBo HBB hd; have HBo := n0_; have HBB := n1_; clear n0_ n1_) | (go_at_call 17; (with_reducible refine (alike_v _ gv gx _ _ HBo.out).mono ?_); rintro e w9 ⟨rfl, hd⟩; have n0_ := Aside0.mk (HBo.out.drawn hd); have n1_ := Aside0.mk (HBB.out.trans (below_drawn _ hd)); clear HBo HBB hd; have HBo := n0_; have HBB := n1_; clear n0_ n1_))
              go_roundg (ko - 1)
              case measure => have := HK.out; have := HI.out; have := HAB.out; omega
              case rel => exact ⟨i + 1, T + k, _, _, rfl, by rw [HDW.out], ⟨by have := HK.out; have := HI.out; have := HAB.out; omega⟩, ⟨by have := HTT.out; have := HI1.out; have := HOV.out; omega⟩, HBo, HBB⟩
    · obtain rfl : i = n := by have := HK.out; omega
      have d6 : decide ((i : Int) < (i : Int)) = false := decide_eq_false (by omega)
      clear hi
      go_wp2
      go_ret
      exact ⟨rfl, HB2.out⟩
theorem runs_all (w : World) (ht : Tabs w) (A : Option Addr) (c : Nat) (l : List Act3) (hl : Acts w A l) (hg : ∀ x ∈ l, gA x) (hn : l.length ≤ maxLen) :
    Calls Tryd.prog 4 #[.slice A l.length c] w fun e w' => e = .returned (.bool true) ∧ Below w.heap.size w w' := by
  by_cases h : l.length ≤ 40
  · exact runs_walk w ht A c l hl hg l.length rfl h
  · have HAw := Aside0.mk (awake_f w ht)
    have d0 : decide (40 < (l.length : Int)) = true := decide_eq_true (by omega)
    generalize l.length = n at *
    clear h hl hg ht hn
    go_enter Tryd.func4, Tryd.ntmps4
    go_wp2_with (go_at_call 6; refine HAw.out.mono ?_; rintro e w' ⟨rfl, hb⟩; have HB := Aside0.mk hb; clear hb HAw)
    go_ret
    exact ⟨rfl, HB.out⟩
end Go.Proofs.YtbpjcgahdgpmhaaDoor.Whl
