/- The law's function WheelComes answers true: the walk. Conditions: the list of acts reads as told, the table of math/bits as laid. -/
import Derived.Test.YtbpjcgahdgpmhaaDoorWheel10
namespace Go.Proofs.YtbpjcgahdgpmhaaDoor.Whl
open Go.RowKit Go.Proofs.YtbpjcgahdgpmhaaDoorW.PrintWords Go.Proofs.YtbpjcgahdgpmhaaDoorW.PrintLast Go.Proofs.YtbpjcgahdgpmhaaDoorW.PrintMore
set_option linter.unusedVariables false
theorem rout_mem (x : Nat → Int) (o : Nat) (ho : o < 16) : decide ((o : Int) ∈ rout x 16) = decide (x o = 1) := by
  rw [decide_eq_decide]
  unfold rout
  simp only [List.mem_map, List.mem_filter, List.mem_range, decide_eq_true_eq]
  constructor
  · rintro ⟨j, ⟨_, h2⟩, h3⟩
    obtain rfl : j = o := by omega
    exact h2
  · intro h
    exact ⟨o, ⟨ho, h⟩, rfl⟩
theorem met_step (l : List Int) (o : Int) (k : Nat) (hk : k < l.length) : decide (o ∈ l.take (k + 1)) = (decide (o ∈ l.take k) || decide (l[k] = o)) := by
  rw [List.take_succ_eq_append_getElem hk, Bool.eq_iff_iff]
  simp only [List.mem_append, List.mem_singleton, decide_eq_true_eq, Bool.or_eq_true]
  constructor
  · rintro (h | h)
    · exact .inl h
    · exact .inr h.symm
  · rintro (h | h)
    · exact .inl h
    · exact .inr h.symm
/-- The wheel in memory, with so many ticks left of the timer o. -/
structure One (w : World) (g o : Nat) (s : Wh) (L : Int) : Prop where
  v : At w g s
  inv : Inv s
  eq : view s o = L
theorem One.own {w w' : World} {g o B : Nat} {s : Wh} {L : Int} (h : One w g o s L) (k : Below B w w') (h1 : g < B) : One w' g o s L := ⟨h.v.own k h1, h.inv, h.eq⟩
theorem One.drawn {w w' : World} {g o : Nat} {s : Wh} {L : Int} (h : One w g o s L) (d : Drawn0 w w') : One w' g o s L := ⟨h.v.drawn d, h.inv, h.eq⟩
theorem one_left {s : Wh} (hi : Inv s) {o : Nat} (ho : o < 16) {L : Int} (e : view s o = L) : left s (o : Int) = L := by rw [left_view hi o ho, e]
theorem set_one {s : Wh} (hi : Inv s) {o : Nat} (ho : o < 16) {L : Int} (e : view s o = L) (id t : Int) (hne : id ≠ o) : view (seti s id t) o = L := by
  rw [(seti_inv hi id t).2.2 o ho]
  split
  · rename_i hf
    obtain ⟨n, rfl, hn, _⟩ := fits_rng hf
    unfold up
    rw [if_neg (by omega)]
    exact e
  · exact e
theorem canc_one {s : Wh} (hi : Inv s) {o : Nat} (ho : o < 16) {L : Int} (e : view s o = L) (id : Int) (hne : id ≠ o) : Inv (canc s id) ∧ view (canc s id) o = L ∧ (canc s id).now = s.now := by
  refine ⟨?_, ?_, canc_now s id⟩
  · by_cases h : has s id = true
    · obtain ⟨n, rfl, hn, _⟩ := has_rng h
      exact canc_inv hi n hn
    · unfold canc
      rw [if_neg h]
      exact hi
  · by_cases h : has s id = true
    · obtain ⟨n, rfl, hn, _⟩ := has_rng h
      rw [canc_view s n o hn ho]
      unfold up
      rw [if_neg (by omega)]
      exact e
    · unfold canc
      rw [if_neg h]
      exact e
theorem cancel_g (w : World) (g : Nat) (id : Int) (s : Wh) (h : At w g s) (hi : Inv s) :
    Calls Tryd.prog 9 #[.pointer (some ⟨g, 0, none⟩), .int .i64 id] w fun e w' => ∃ b, e = .returned (.bool b) ∧ At w' g (canc s id) ∧ Turn g w w' :=
  (cancelv_f w g id s h hi).mono fun e w' ⟨h1, h2, h3⟩ => ⟨_, h1, h2, h3⟩
theorem One.cast {w : World} {g o : Nat} {s : Wh} {L L' : Int} (h : One w g o s L) (e : L = L') : One w g o s L' := e ▸ h
theorem tick_one (w : World) (g o : Nat) (s : Wh) (L : Int) (h : One w g o s L) (hg : 0 < g) (hn : s.now < 1000000000) (ht : Tabs w) (ho : o < 16) (hL : 1 ≤ L) :
    Calls Tryd.prog 11 #[.pointer (some ⟨g, 0, none⟩)] w fun e w' => ∃ (A : Option Addr) (R : List Int) (c : Nat) (s' : Wh), e = .returned (.slice A R.length c) ∧ Kd.C (Kd.int .i64) w' A R.length R ∧ R.length ≤ 16 ∧ decide ((o : Int) ∈ R) = decide (L = 1) ∧ One w' g o s' (L - 1) ∧ s'.now ≤ s.now + 1 ∧ Turn g w w' := by
  refine (tickv_f w g s h.v hg h.inv hn ht).mono ?_
  rintro e w' ⟨v, s', rfl, hO, ha, hU, hi, hv, hn'⟩
  obtain ⟨A, c, rfl⟩ := Kd.R_slice hO
  refine ⟨A, _, c, s', rfl, (out_reads hO).2.2, rout_len _ _, ?_, ⟨ha, hi, ?_⟩, hn', hU⟩
  · rw [rout_mem _ o ho, h.eq]
  · rw [hv o ho, h.eq]
    unfold dec
    rw [if_pos (by omega)]
set_option maxRecDepth 100000 in
set_option maxHeartbeats 4000000 in
theorem comes_walk (w : World) (ht : Tabs w) (a0 : Int) (h0 : 0 ≤ a0) (h0' : a0 ≤ 255) (K : Nat) (hK1 : 1 ≤ K) (hK2 : K ≤ 300) (A : Option Addr) (c : Nat) (l : List Act3) (hl : Acts w A l) (hg : ∀ x ∈ l, gA x) (n : Nat) (hln : l.length = n) (h1 : n ≤ 60) :
    Calls Tryd.prog 3 #[.int .u8 a0, .int .i64 (K : Int), .slice A n c] w fun e w' => e = .returned (.bool true) ∧ Below w.heap.size w w' := by
  have HAw := Aside0.mk (awake_f w ht)
  have HACT := Aside0.mk hl
  have HG := Aside0.mk hg
  have HLN := Aside0.mk hln
  have HT := Aside0.mk ht
  have HAB := Aside0.mk h1
  have d1 : decide ((K : Int) < 1) = false := decide_eq_false (by omega)
  have d2 : decide (300 < (K : Int)) = false := decide_eq_false (by omega)
  have d3 : decide (60 < (n : Int)) = false := decide_eq_false (by omega)
  have d4 : decide (K < 1) = false := decide_eq_false (by omega)
  have d5 : decide (300 < K) = false := decide_eq_false (by omega)
  have d6 : decide (60 < n) = false := decide_eq_false (by omega)
  obtain ⟨o, hmod⟩ : ∃ o : Nat, a0 % 16 = (o : Int) := ⟨(a0 % 16).toNat, by omega⟩
  have ho : o < 16 := by omega
  have HO := Aside0.mk ho
  have HKK := Aside0.mk (And.intro hK1 hK2)
  have HF := Aside0.mk (show fits (o : Int) (K : Int) = true from decide_eq_true (by omega))
  have hmod2 : Int.tmod a0 16 = (o : Int) := by rw [Int.tmod_eq_emod_of_nonneg h0]; exact hmod
  clear h1 hl hln ht hg ho hK1 hK2
  go_enter Tryd.func3, Tryd.ntmps3
  go_wp2_with (first | (go_at_call 6; refine HAw.out.mono ?_; rintro e w0 ⟨rfl, hb⟩; have HB := Aside0.mk hb; clear hb HAw) | (go_at_call 7; refine (new2 _).mono ?_; rintro e w1 ⟨g, rfl, hg1, hg2, ha, hb⟩; have HV := Aside0.mk ha; have HGV := Aside0.mk (Nat.le_trans HB.out.size hg1); have n0_ := Aside0.mk (HB.out.trans (hb.mono HB.out.size)); clear HB ha hg1 hg2 hb; have HB := n0_; clear n0_) | (go_at_call 8; (with_reducible refine (set_f _ g (o : Int) (K : Int) none_ HV.out none_inv).mono ?_); rintro e w2 ⟨he, ha, hU⟩; rw [HF.out] at he; subst he; have n0_ := Aside0.mk (HB.out.trans (hU.below HGV.out HB.out.size)); have HV1 := Aside0.mk ha; clear HB HV ha hU; have HB := n0_; clear n0_))
  have HS := Aside0.mk (show One w2 g o (seti none_ (o : Int) (K : Int)) ((K : Int) - ((1 : Nat) : Int) + 1) from ⟨HV1.out, (seti_inv none_inv _ _).1, by rw [(seti_inv none_inv _ _).2.2 o HO.out, if_pos HF.out, Int.toNat_natCast]; unfold up; rw [if_pos rfl]; omega⟩)
  have HN0 := Aside0.mk (show (seti none_ (o : Int) (K : Int)).now = 0 from (seti_inv none_inv _ _).2.1)
  clear hmod hmod2 HV1 h0 h0'
  go_loopg [9] 302 (fun kq v9 w' => ∃ (t : Nat) (s : Wh), v9 = .int .i64 (t : Int) ∧ Aside0 (kq + t = 303 ∧ 1 ≤ t ∧ t ≤ K + 1) ∧ Aside0 (One w' g o s ((K : Int) - (t : Int) + 1) ∧ s.now ≤ t) ∧ Aside0 (Below w.heap.size w w'))
  case atStart => exact ⟨1, _, rfl, ⟨by have := HKK.out; omega⟩, ⟨HS.out, by rw [HN0.out]; omega⟩, HB⟩
  case round =>
    clear HS HN0 HB
    obtain ⟨t, s, rfl, HK, HS, HB⟩ := hrel
    by_cases htk : t ≤ K
    · have b0 : decide ((t : Int) ≤ (K : Int)) = true := decide_eq_true (by omega)
      have b0' : decide (t ≤ K) = true := decide_eq_true htk
      have HTK := Aside0.mk htk
      have k1 : 1 ≤ (t : Int) := by have := HK.out; omega
      have k2 : (t : Int) ≤ 300 := by have := HK.out; have := HKK.out; omega
      have k3 : (K : Int) ≤ 300 := by have := HKK.out; omega
      clear htk
      by_cases htn : t ≤ n
      · have b1 : decide (t ≤ n) = true := decide_eq_true htn
        obtain ⟨q, hq⟩ : ∃ q : Nat, (t : Int) - 1 = q := ⟨t - 1, by omega⟩
        have hqn : q < n := by omega
        obtain ⟨ad, rfl, x1, x2, x3⟩ := (HACT.out.below HB.out).el q (by have := HLN.out; omega)
        obtain ⟨⟨g1, g1'⟩, ⟨g2, g2'⟩, ⟨g3, g3'⟩⟩ := gA_rng (gA_get HG.out q)
        have hqw : wrap64 ((t : Int) - 1) = (q : Int) := by rw [w64 (by omega) (by omega)]; exact hq
        have d7 : (q : Int) < (n : Int) := by omega
        have d8 : 0 ≤ (q : Int) := by omega
        generalize l.getD q (0, 0, 0) = el at x1 x2 x3 g1 g1' g2 g2' g3 g3'
        obtain ⟨what, id, tt⟩ := el
        simp only at x1 x2 x3 g1 g1' g2 g2' g3 g3'
        have hr : what % 2 = 0 ∨ what % 2 = 1 := by omega
        clear g1' g2 g2' g3 g3' htn
        have HE := act_new wr (.int .u8 what) (.int .i64 id) (.int .i64 tt) 28
        have HBa : Below wr.heap.size wr (wr.alloc (.cells #[.int .u8 what, .int .i64 id, .int .i64 tt] 28)) := (Below.refl _ _).alloc (Nat.le_refl _) _
        have HSZ := Aside0.mk (laid_lt wr (.cells #[.int .u8 what, .int .i64 id, .int .i64 tt] 28))
        have HGE := Aside0.mk (show g < wr.heap.size ∧ w.heap.size ≤ wr.heap.size from ⟨HS.out.1.v.in, HB.out.size⟩)
        have HNE := Aside0.mk (show wr.heap.size ≠ g by have := HGE.out; omega)
        have HBB := Aside0.mk (HB.out.trans (HBa.mono HB.out.size))
        have HBo := Aside0.mk (HS.out.1.own HBa HGE.out.1)
        have HNW := Aside0.mk HS.out.2
        obtain ⟨e0, e1, e2⟩ := HE
        have E0 := Aside0.mk e0
        have E1 := Aside0.mk e1
        have E2 := Aside0.mk e2
        clear HBa HS HB e0 e1 e2
        by_cases hid : id = (o : Int)
        · have b2 : (id != (o : Int)) = false := by rw [hid]; simp
          have b3 : (id == (o : Int)) = true := beq_iff_eq.2 hid
          clear hr
          subst hid
          go_wp2_with fail
          generalize wr.alloc (.cells #[.int .u8 what, .int .i64 (o : Int), .int .i64 tt] 28) = W0 at *
          clear x1 x2 x3 hq hqn hqw
          have HLp := Aside0.mk (show 1 ≤ (K : Int) - (t : Int) + 1 by have := HTK.out; omega)
          have HG0 := Aside0.mk (show 0 < w.heap.size ∧ 0 < g from ⟨World.block_lt_of_cell? w _ (HT.out 0 (by decide)), by have := World.block_lt_of_cell? w _ (HT.out 0 (by decide)); have := HGV.out; omega⟩)
          have HNB := Aside0.mk (Int.lt_of_le_of_lt HNW.out (show (t : Int) < 1000000000 by omega))
          go_wp2_with (first | (go_at_call 10; (with_reducible refine (left_g _ g (o : Int) ((K : Int) - (t : Int) + 1) _ HBo.out.v HBo.out.inv.good.set (one_left HBo.out.inv HO.out HBo.out.eq)).mono ?_); rintro e w5 ⟨rfl, hd⟩; have n0_ := Aside0.mk (HBo.out.drawn hd); have n1_ := Aside0.mk (HBB.out.trans (below_drawn _ hd)); clear HBo HBB hd; have HBo := n0_; have HBB := n1_; clear n0_ n1_) | (go_at_call 11; (with_reducible refine (tick_one _ g o _ _ HBo.out HG0.out.2 HNB.out (HT.out.below HBB.out HG0.out.1) HO.out HLp.out).mono ?_); rintro e w6 ⟨A1, R, c1, s1, rfl, hc, hl, hm, hO, hn, hU⟩; have HC := Aside0.mk hc; have HRL := Aside0.mk hl; have HME := Aside0.mk hm; have n2_ := Aside0.mk (show s1.now ≤ (t : Int) + 1 from Int.le_trans hn (Int.add_le_add_right HNW.out 1)); have n1_ := Aside0.mk (HBB.out.trans (hU.below HGV.out HBB.out.size)); have n0_ := Aside0.mk hO; clear HBo HBB HNW HNB hc hl hm hO hn hU; have HBo := n0_; have HBB := n1_; have HNW := n2_; clear n0_ n1_ n2_))
          obtain ⟨ko, rfl⟩ : ∃ k : Nat, k = gk := ⟨_, rfl⟩
          go_loopg [11, 91] (R.length + 1) (fun kq v11 v91 w' => ∃ (k : Nat) (m : Bool), v11 = .bool m ∧ v91 = .int .i64 (k : Int) ∧ Aside0 (kq + k = R.length + 1 ∧ k ≤ R.length) ∧ Aside0 (decide ((o : Int) ∈ R.take k) = m) ∧ Aside0 (One w' g o s1 ((K : Int) - (t : Int) + 1 - 1)) ∧ Aside0 (Below w.heap.size w w') ∧ Aside0 (Kd.C (Kd.int .i64) w' A1 R.length R))
          case atStart => exact ⟨0, false, rfl, rfl, ⟨by omega⟩, ⟨by simp⟩, HBo, HBB, HC⟩
          case round =>
            clear HBo HBB HC
            obtain ⟨k, m, rfl, rfl, HK2, HM, HBo, HBB, HC⟩ := hrel
            by_cases hk : k < R.length
            · have b1 : decide (k < R.length) = true := decide_eq_true hk
              have dw : wrap64 ((k : Int) + 1) = ((k + 1 : Nat) : Int) := by rw [w64 (by omega) (by have := HRL.out; omega)]; omega
              have HDW2 := Aside0.mk dw
              have hst := met_step R (o : Int) k hk
              rw [HM.out] at hst
              obtain ⟨ad1, ea1, hx⟩ := Kd.at_int HC.out (k : Int) (by omega) (by omega)
              subst ea1
              have hrd : rd R (k : Int) = R[k] := by unfold rd; rw [Int.toNat_natCast, List.getD_eq_getElem?_getD, List.getElem?_eq_getElem hk]; rfl
              rw [hrd, Int.toNat_natCast] at hx
              have k4 : (k : Int) < (R.length : Int) := by omega
              have k5 : 0 ≤ (k : Int) := by omega
              have HKN := Aside0.mk hk
              have HKR := Aside0.mk HRL.out
              have k6 : k ≤ 16 := by have := HRL.out; omega
              generalize R[k] = el1 at *
              clear hk dw hrd
              cases m with
              | true =>
                have HM2 := Aside0.mk (show decide ((o : Int) ∈ R.take (k + 1)) = true by rw [hst]; rfl)
                clear hst
                go_wp2
                go_roundg (gk - 1)
                case measure => have := HK2.out; have := HKN.out; omega
                case rel => exact ⟨k + 1, true, rfl, by first | rw [HDW2.out] | rfl | simp, ⟨by have := HK2.out; have := HKN.out; omega⟩, HM2, HBo, HBB, HC⟩
              | false =>
                by_cases he : el1 = (o : Int)
                · have b2 : (el1 == (o : Int)) = true := beq_iff_eq.2 he
                  have HM2 := Aside0.mk (show decide ((o : Int) ∈ R.take (k + 1)) = true by rw [hst, decide_eq_true he]; rfl)
                  clear hst
                  subst he
                  go_wp2
                  go_roundg (gk - 1)
                  case measure => have := HK2.out; have := HKN.out; omega
                  case rel => exact ⟨k + 1, true, rfl, by first | rw [HDW2.out] | rfl | simp, ⟨by have := HK2.out; have := HKN.out; omega⟩, HM2, HBo, HBB, HC⟩
                · have b2 : (el1 == (o : Int)) = false := beq_eq_false_iff_ne.2 he
                  have HM2 := Aside0.mk (show decide ((o : Int) ∈ R.take (k + 1)) = false by rw [hst, decide_eq_false he]; rfl)
                  clear hst he
                  go_wp2
                  go_roundg (gk - 1)
                  case measure => have := HK2.out; have := HKN.out; omega
                  case rel => exact ⟨k + 1, false, rfl, by first | rw [HDW2.out] | rfl | simp, ⟨by have := HK2.out; have := HKN.out; omega⟩, HM2, HBo, HBB, HC⟩
            · obtain rfl : k = R.length := by have := HK2.out; omega
              have b1 : decide (R.length < R.length) = false := decide_eq_false (by omega)
              have hm2 : m = decide ((K : Int) - (t : Int) + 1 = 1) := by rw [← HME.out, ← HM.out, List.take_length]
              clear hk
              by_cases htK : t = K
              · have b4 : (t == K) = true := beq_iff_eq.2 htK
                have b5 : ((t : Int) == (K : Int)) = true := beq_iff_eq.2 (by omega)
                rw [decide_eq_true (show (K : Int) - (t : Int) + 1 = 1 by omega)] at hm2
                subst hm2
                clear htK
                go_wp2
                go_roundg (ko - 1)
                case measure => have := HK.out; have := HKK.out; omega
                case rel => exact ⟨t + 1, s1, by first | rfl | simp, ⟨by have := HK.out; have := HTK.out; have := HKK.out; omega⟩, ⟨HBo.out.cast (by omega), by have := HNW.out; omega⟩, HBB⟩
              · have b4 : (t == K) = false := beq_eq_false_iff_ne.2 htK
                have b5 : ((t : Int) == (K : Int)) = false := beq_eq_false_iff_ne.2 (by omega)
                rw [decide_eq_false (show ¬ (K : Int) - (t : Int) + 1 = 1 by omega)] at hm2
                subst hm2
                clear htK
                go_wp2
                go_roundg (ko - 1)
                case measure => have := HK.out; have := HKK.out; omega
                case rel => exact ⟨t + 1, s1, by first | rfl | simp, ⟨by have := HK.out; have := HTK.out; have := HKK.out; omega⟩, ⟨HBo.out.cast (by omega), by have := HNW.out; omega⟩, HBB⟩
        · have b2 : (id != (o : Int)) = true := bne_iff_ne.2 hid
          have HID := Aside0.mk hid
          clear hid
          rcases hr with hr | hr
          · go_wp2_with (go_at_call 8; go_loud ((with_reducible refine (set_f _ g id tt s HBo.out.v HBo.out.inv).mono ?_); rintro e w3 ⟨rfl, ha, hU⟩; have f0 := (World.cell?_of_block (a := ⟨wr.heap.size, 0, none⟩) (hU.block wr.heap.size HSZ.out HNE.out)).trans E0.out; have f1 := (World.cell?_of_block (a := ⟨wr.heap.size, 1, none⟩) (hU.block wr.heap.size HSZ.out HNE.out)).trans E1.out; have n0_ := Aside0.mk (show One w3 g o (seti s id tt) ((K : Int) - (t : Int) + 1) from ⟨ha, (seti_inv HBo.out.inv id tt).1, set_one HBo.out.inv HO.out HBo.out.eq id tt HID.out⟩); have n1_ := Aside0.mk (HBB.out.trans (hU.below HGV.out HBB.out.size)); have n2_ := Aside0.mk (show (seti s id tt).now ≤ t by rw [(seti_inv HBo.out.inv id tt).2.1]; exact HNW.out); clear HBo HBB HNW ha hU; have HBo := n0_; have HBB := n1_; have HNW := n2_; clear n0_ n1_ n2_))
            generalize seti s id tt = s' at *
            clear x1 x2 x3 hq hqn hqw hr f0 f1
            have HLp := Aside0.mk (show 1 ≤ (K : Int) - (t : Int) + 1 by have := HTK.out; omega)
            have HG0 := Aside0.mk (show 0 < w.heap.size ∧ 0 < g from ⟨World.block_lt_of_cell? w _ (HT.out 0 (by decide)), by have := World.block_lt_of_cell? w _ (HT.out 0 (by decide)); have := HGV.out; omega⟩)
            have HNB := Aside0.mk (Int.lt_of_le_of_lt HNW.out (show (t : Int) < 1000000000 by omega))
            go_wp2_with (first | (go_at_call 10; (with_reducible refine (left_g _ g (o : Int) ((K : Int) - (t : Int) + 1) _ HBo.out.v HBo.out.inv.good.set (one_left HBo.out.inv HO.out HBo.out.eq)).mono ?_); rintro e w5 ⟨rfl, hd⟩; have n0_ := Aside0.mk (HBo.out.drawn hd); have n1_ := Aside0.mk (HBB.out.trans (below_drawn _ hd)); clear HBo HBB hd; have HBo := n0_; have HBB := n1_; clear n0_ n1_) | (go_at_call 11; (with_reducible refine (tick_one _ g o _ _ HBo.out HG0.out.2 HNB.out (HT.out.below HBB.out HG0.out.1) HO.out HLp.out).mono ?_); rintro e w6 ⟨A1, R, c1, s1, rfl, hc, hl, hm, hO, hn, hU⟩; have HC := Aside0.mk hc; have HRL := Aside0.mk hl; have HME := Aside0.mk hm; have n2_ := Aside0.mk (show s1.now ≤ (t : Int) + 1 from Int.le_trans hn (Int.add_le_add_right HNW.out 1)); have n1_ := Aside0.mk (HBB.out.trans (hU.below HGV.out HBB.out.size)); have n0_ := Aside0.mk hO; clear HBo HBB HNW HNB hc hl hm hO hn hU; have HBo := n0_; have HBB := n1_; have HNW := n2_; clear n0_ n1_ n2_))
            obtain ⟨ko, rfl⟩ : ∃ k : Nat, k = gk := ⟨_, rfl⟩
            go_loopg [11, 91] (R.length + 1) (fun kq v11 v91 w' => ∃ (k : Nat) (m : Bool), v11 = .bool m ∧ v91 = .int .i64 (k : Int) ∧ Aside0 (kq + k = R.length + 1 ∧ k ≤ R.length) ∧ Aside0 (decide ((o : Int) ∈ R.take k) = m) ∧ Aside0 (One w' g o s1 ((K : Int) - (t : Int) + 1 - 1)) ∧ Aside0 (Below w.heap.size w w') ∧ Aside0 (Kd.C (Kd.int .i64) w' A1 R.length R))
            case atStart => exact ⟨0, false, rfl, rfl, ⟨by omega⟩, ⟨by simp⟩, HBo, HBB, HC⟩
            case round =>
              clear HBo HBB HC
              obtain ⟨k, m, rfl, rfl, HK2, HM, HBo, HBB, HC⟩ := hrel
              by_cases hk : k < R.length
              · have b1 : decide (k < R.length) = true := decide_eq_true hk
                have dw : wrap64 ((k : Int) + 1) = ((k + 1 : Nat) : Int) := by rw [w64 (by omega) (by have := HRL.out; omega)]; omega
                have HDW2 := Aside0.mk dw
                have hst := met_step R (o : Int) k hk
                rw [HM.out] at hst
                obtain ⟨ad1, ea1, hx⟩ := Kd.at_int HC.out (k : Int) (by omega) (by omega)
                subst ea1
                have hrd : rd R (k : Int) = R[k] := by unfold rd; rw [Int.toNat_natCast, List.getD_eq_getElem?_getD, List.getElem?_eq_getElem hk]; rfl
                rw [hrd, Int.toNat_natCast] at hx
                have k4 : (k : Int) < (R.length : Int) := by omega
                have k5 : 0 ≤ (k : Int) := by omega
                have HKN := Aside0.mk hk
                have HKR := Aside0.mk HRL.out
                have k6 : k ≤ 16 := by have := HRL.out; omega
                generalize R[k] = el1 at *
                clear hk dw hrd
                cases m with
                | true =>
                  have HM2 := Aside0.mk (show decide ((o : Int) ∈ R.take (k + 1)) = true by rw [hst]; rfl)
                  clear hst
                  go_wp2
                  go_roundg (gk - 1)
                  case measure => have := HK2.out; have := HKN.out; omega
                  case rel => exact ⟨k + 1, true, rfl, by first | rw [HDW2.out] | rfl | simp, ⟨by have := HK2.out; have := HKN.out; omega⟩, HM2, HBo, HBB, HC⟩
                | false =>
                  by_cases he : el1 = (o : Int)
                  · have b2 : (el1 == (o : Int)) = true := beq_iff_eq.2 he
                    have HM2 := Aside0.mk (show decide ((o : Int) ∈ R.take (k + 1)) = true by rw [hst, decide_eq_true he]; rfl)
                    clear hst
                    subst he
                    go_wp2
                    go_roundg (gk - 1)
                    case measure => have := HK2.out; have := HKN.out; omega
                    case rel => exact ⟨k + 1, true, rfl, by first | rw [HDW2.out] | rfl | simp, ⟨by have := HK2.out; have := HKN.out; omega⟩, HM2, HBo, HBB, HC⟩
                  · have b2 : (el1 == (o : Int)) = false := beq_eq_false_iff_ne.2 he
                    have HM2 := Aside0.mk (show decide ((o : Int) ∈ R.take (k + 1)) = false by rw [hst, decide_eq_false he]; rfl)
                    clear hst he
                    go_wp2
                    go_roundg (gk - 1)
                    case measure => have := HK2.out; have := HKN.out; omega
                    case rel => exact ⟨k + 1, false, rfl, by first | rw [HDW2.out] | rfl | simp, ⟨by have := HK2.out; have := HKN.out; omega⟩, HM2, HBo, HBB, HC⟩
              · obtain rfl : k = R.length := by have := HK2.out; omega
                have b1 : decide (R.length < R.length) = false := decide_eq_false (by omega)
                have hm2 : m = decide ((K : Int) - (t : Int) + 1 = 1) := by rw [← HME.out, ← HM.out, List.take_length]
                clear hk
                by_cases htK : t = K
                · have b4 : (t == K) = true := beq_iff_eq.2 htK
                  have b5 : ((t : Int) == (K : Int)) = true := beq_iff_eq.2 (by omega)
                  rw [decide_eq_true (show (K : Int) - (t : Int) + 1 = 1 by omega)] at hm2
                  subst hm2
                  clear htK
                  go_wp2
                  go_roundg (ko - 1)
                  case measure => have := HK.out; have := HKK.out; omega
                  case rel => exact ⟨t + 1, s1, by first | rfl | simp, ⟨by have := HK.out; have := HTK.out; have := HKK.out; omega⟩, ⟨HBo.out.cast (by omega), by have := HNW.out; omega⟩, HBB⟩
                · have b4 : (t == K) = false := beq_eq_false_iff_ne.2 htK
                  have b5 : ((t : Int) == (K : Int)) = false := beq_eq_false_iff_ne.2 (by omega)
                  rw [decide_eq_false (show ¬ (K : Int) - (t : Int) + 1 = 1 by omega)] at hm2
                  subst hm2
                  clear htK
                  go_wp2
                  go_roundg (ko - 1)
                  case measure => have := HK.out; have := HKK.out; omega
                  case rel => exact ⟨t + 1, s1, by first | rfl | simp, ⟨by have := HK.out; have := HTK.out; have := HKK.out; omega⟩, ⟨HBo.out.cast (by omega), by have := HNW.out; omega⟩, HBB⟩
          · go_wp2_with (go_at_call 9; (with_reducible refine (cancel_g _ g id s HBo.out.v HBo.out.inv).mono ?_); rintro e w3 ⟨b, rfl, ha, hU⟩; have n0_ := Aside0.mk (show One w3 g o (canc s id) ((K : Int) - (t : Int) + 1) from ⟨ha, (canc_one HBo.out.inv HO.out HBo.out.eq id HID.out).1, (canc_one HBo.out.inv HO.out HBo.out.eq id HID.out).2.1⟩); have n1_ := Aside0.mk (HBB.out.trans (hU.below HGV.out HBB.out.size)); have n2_ := Aside0.mk (show (canc s id).now ≤ t by rw [canc_now s id]; exact HNW.out); clear HBo HBB HNW ha hU; have HBo := n0_; have HBB := n1_; have HNW := n2_; clear n0_ n1_ n2_)
            generalize canc s id = s' at *
            clear x1 x2 x3 hq hqn hqw hr
            have HLp := Aside0.mk (show 1 ≤ (K : Int) - (t : Int) + 1 by have := HTK.out; omega)
            have HG0 := Aside0.mk (show 0 < w.heap.size ∧ 0 < g from ⟨World.block_lt_of_cell? w _ (HT.out 0 (by decide)), by have := World.block_lt_of_cell? w _ (HT.out 0 (by decide)); have := HGV.out; omega⟩)
            have HNB := Aside0.mk (Int.lt_of_le_of_lt HNW.out (show (t : Int) < 1000000000 by omega))
            go_wp2_with (first | (go_at_call 10; (with_reducible refine (left_g _ g (o : Int) ((K : Int) - (t : Int) + 1) _ HBo.out.v HBo.out.inv.good.set (one_left HBo.out.inv HO.out HBo.out.eq)).mono ?_); rintro e w5 ⟨rfl, hd⟩; have n0_ := Aside0.mk (HBo.out.drawn hd); have n1_ := Aside0.mk (HBB.out.trans (below_drawn _ hd)); clear HBo HBB hd; have HBo := n0_; have HBB := n1_; clear n0_ n1_) | (go_at_call 11; (with_reducible refine (tick_one _ g o _ _ HBo.out HG0.out.2 HNB.out (HT.out.below HBB.out HG0.out.1) HO.out HLp.out).mono ?_); rintro e w6 ⟨A1, R, c1, s1, rfl, hc, hl, hm, hO, hn, hU⟩; have HC := Aside0.mk hc; have HRL := Aside0.mk hl; have HME := Aside0.mk hm; have n2_ := Aside0.mk (show s1.now ≤ (t : Int) + 1 from Int.le_trans hn (Int.add_le_add_right HNW.out 1)); have n1_ := Aside0.mk (HBB.out.trans (hU.below HGV.out HBB.out.size)); have n0_ := Aside0.mk hO; clear HBo HBB HNW HNB hc hl hm hO hn hU; have HBo := n0_; have HBB := n1_; have HNW := n2_; clear n0_ n1_ n2_))
            obtain ⟨ko, rfl⟩ : ∃ k : Nat, k = gk := ⟨_, rfl⟩
            go_loopg [11, 91] (R.length + 1) (fun kq v11 v91 w' => ∃ (k : Nat) (m : Bool), v11 = .bool m ∧ v91 = .int .i64 (k : Int) ∧ Aside0 (kq + k = R.length + 1 ∧ k ≤ R.length) ∧ Aside0 (decide ((o : Int) ∈ R.take k) = m) ∧ Aside0 (One w' g o s1 ((K : Int) - (t : Int) + 1 - 1)) ∧ Aside0 (Below w.heap.size w w') ∧ Aside0 (Kd.C (Kd.int .i64) w' A1 R.length R))
            case atStart => exact ⟨0, false, rfl, rfl, ⟨by omega⟩, ⟨by simp⟩, HBo, HBB, HC⟩
            case round =>
              clear HBo HBB HC
              obtain ⟨k, m, rfl, rfl, HK2, HM, HBo, HBB, HC⟩ := hrel
              by_cases hk : k < R.length
              · have b1 : decide (k < R.length) = true := decide_eq_true hk
                have dw : wrap64 ((k : Int) + 1) = ((k + 1 : Nat) : Int) := by rw [w64 (by omega) (by have := HRL.out; omega)]; omega
                have HDW2 := Aside0.mk dw
                have hst := met_step R (o : Int) k hk
                rw [HM.out] at hst
                obtain ⟨ad1, ea1, hx⟩ := Kd.at_int HC.out (k : Int) (by omega) (by omega)
                subst ea1
                have hrd : rd R (k : Int) = R[k] := by unfold rd; rw [Int.toNat_natCast, List.getD_eq_getElem?_getD, List.getElem?_eq_getElem hk]; rfl
                rw [hrd, Int.toNat_natCast] at hx
                have k4 : (k : Int) < (R.length : Int) := by omega
                have k5 : 0 ≤ (k : Int) := by omega
                have HKN := Aside0.mk hk
                have HKR := Aside0.mk HRL.out
                have k6 : k ≤ 16 := by have := HRL.out; omega
                generalize R[k] = el1 at *
                clear hk dw hrd
                cases m with
                | true =>
                  have HM2 := Aside0.mk (show decide ((o : Int) ∈ R.take (k + 1)) = true by rw [hst]; rfl)
                  clear hst
                  go_wp2
                  go_roundg (gk - 1)
                  case measure => have := HK2.out; have := HKN.out; omega
                  case rel => exact ⟨k + 1, true, rfl, by first | rw [HDW2.out] | rfl | simp, ⟨by have := HK2.out; have := HKN.out; omega⟩, HM2, HBo, HBB, HC⟩
                | false =>
                  by_cases he : el1 = (o : Int)
                  · have b2 : (el1 == (o : Int)) = true := beq_iff_eq.2 he
                    have HM2 := Aside0.mk (show decide ((o : Int) ∈ R.take (k + 1)) = true by rw [hst, decide_eq_true he]; rfl)
                    clear hst
                    subst he
                    go_wp2
                    go_roundg (gk - 1)
                    case measure => have := HK2.out; have := HKN.out; omega
                    case rel => exact ⟨k + 1, true, rfl, by first | rw [HDW2.out] | rfl | simp, ⟨by have := HK2.out; have := HKN.out; omega⟩, HM2, HBo, HBB, HC⟩
                  · have b2 : (el1 == (o : Int)) = false := beq_eq_false_iff_ne.2 he
                    have HM2 := Aside0.mk (show decide ((o : Int) ∈ R.take (k + 1)) = false by rw [hst, decide_eq_false he]; rfl)
                    clear hst he
                    go_wp2
                    go_roundg (gk - 1)
                    case measure => have := HK2.out; have := HKN.out; omega
                    case rel => exact ⟨k + 1, false, rfl, by first | rw [HDW2.out] | rfl | simp, ⟨by have := HK2.out; have := HKN.out; omega⟩, HM2, HBo, HBB, HC⟩
              · obtain rfl : k = R.length := by have := HK2.out; omega
                have b1 : decide (R.length < R.length) = false := decide_eq_false (by omega)
                have hm2 : m = decide ((K : Int) - (t : Int) + 1 = 1) := by rw [← HME.out, ← HM.out, List.take_length]
                clear hk
                by_cases htK : t = K
                · have b4 : (t == K) = true := beq_iff_eq.2 htK
                  have b5 : ((t : Int) == (K : Int)) = true := beq_iff_eq.2 (by omega)
                  rw [decide_eq_true (show (K : Int) - (t : Int) + 1 = 1 by omega)] at hm2
                  subst hm2
                  clear htK
                  go_wp2
                  go_roundg (ko - 1)
                  case measure => have := HK.out; have := HKK.out; omega
                  case rel => exact ⟨t + 1, s1, by first | rfl | simp, ⟨by have := HK.out; have := HTK.out; have := HKK.out; omega⟩, ⟨HBo.out.cast (by omega), by have := HNW.out; omega⟩, HBB⟩
                · have b4 : (t == K) = false := beq_eq_false_iff_ne.2 htK
                  have b5 : ((t : Int) == (K : Int)) = false := beq_eq_false_iff_ne.2 (by omega)
                  rw [decide_eq_false (show ¬ (K : Int) - (t : Int) + 1 = 1 by omega)] at hm2
                  subst hm2
                  clear htK
                  go_wp2
                  go_roundg (ko - 1)
                  case measure => have := HK.out; have := HKK.out; omega
                  case rel => exact ⟨t + 1, s1, by first | rfl | simp, ⟨by have := HK.out; have := HTK.out; have := HKK.out; omega⟩, ⟨HBo.out.cast (by omega), by have := HNW.out; omega⟩, HBB⟩
      · have b1 : decide (t ≤ n) = false := decide_eq_false htn
        clear htn
        have HBo := Aside0.mk HS.out.1
        have HNW := Aside0.mk HS.out.2
        have HBB := HB
        clear HS HB
        go_wp2_with fail
        have HLp := Aside0.mk (show 1 ≤ (K : Int) - (t : Int) + 1 by have := HTK.out; omega)
        have HG0 := Aside0.mk (show 0 < w.heap.size ∧ 0 < g from ⟨World.block_lt_of_cell? w _ (HT.out 0 (by decide)), by have := World.block_lt_of_cell? w _ (HT.out 0 (by decide)); have := HGV.out; omega⟩)
        have HNB := Aside0.mk (Int.lt_of_le_of_lt HNW.out (show (t : Int) < 1000000000 by omega))
        go_wp2_with (first | (go_at_call 10; (with_reducible refine (left_g _ g (o : Int) ((K : Int) - (t : Int) + 1) _ HBo.out.v HBo.out.inv.good.set (one_left HBo.out.inv HO.out HBo.out.eq)).mono ?_); rintro e w5 ⟨rfl, hd⟩; have n0_ := Aside0.mk (HBo.out.drawn hd); have n1_ := Aside0.mk (HBB.out.trans (below_drawn _ hd)); clear HBo HBB hd; have HBo := n0_; have HBB := n1_; clear n0_ n1_) | (go_at_call 11; (with_reducible refine (tick_one _ g o _ _ HBo.out HG0.out.2 HNB.out (HT.out.below HBB.out HG0.out.1) HO.out HLp.out).mono ?_); rintro e w6 ⟨A1, R, c1, s1, rfl, hc, hl, hm, hO, hn, hU⟩; have HC := Aside0.mk hc; have HRL := Aside0.mk hl; have HME := Aside0.mk hm; have n2_ := Aside0.mk (show s1.now ≤ (t : Int) + 1 from Int.le_trans hn (Int.add_le_add_right HNW.out 1)); have n1_ := Aside0.mk (HBB.out.trans (hU.below HGV.out HBB.out.size)); have n0_ := Aside0.mk hO; clear HBo HBB HNW HNB hc hl hm hO hn hU; have HBo := n0_; have HBB := n1_; have HNW := n2_; clear n0_ n1_ n2_))
        obtain ⟨ko, rfl⟩ : ∃ k : Nat, k = gk := ⟨_, rfl⟩
        go_loopg [11, 91] (R.length + 1) (fun kq v11 v91 w' => ∃ (k : Nat) (m : Bool), v11 = .bool m ∧ v91 = .int .i64 (k : Int) ∧ Aside0 (kq + k = R.length + 1 ∧ k ≤ R.length) ∧ Aside0 (decide ((o : Int) ∈ R.take k) = m) ∧ Aside0 (One w' g o s1 ((K : Int) - (t : Int) + 1 - 1)) ∧ Aside0 (Below w.heap.size w w') ∧ Aside0 (Kd.C (Kd.int .i64) w' A1 R.length R))
        case atStart => exact ⟨0, false, rfl, rfl, ⟨by omega⟩, ⟨by simp⟩, HBo, HBB, HC⟩
        case round =>
          clear HBo HBB HC
          obtain ⟨k, m, rfl, rfl, HK2, HM, HBo, HBB, HC⟩ := hrel
          by_cases hk : k < R.length
          · have b1 : decide (k < R.length) = true := decide_eq_true hk
            have dw : wrap64 ((k : Int) + 1) = ((k + 1 : Nat) : Int) := by rw [w64 (by omega) (by have := HRL.out; omega)]; omega
            have HDW2 := Aside0.mk dw
            have hst := met_step R (o : Int) k hk
            rw [HM.out] at hst
            obtain ⟨ad1, ea1, hx⟩ := Kd.at_int HC.out (k : Int) (by omega) (by omega)
            subst ea1
            have hrd : rd R (k : Int) = R[k] := by unfold rd; rw [Int.toNat_natCast, List.getD_eq_getElem?_getD, List.getElem?_eq_getElem hk]; rfl
            rw [hrd, Int.toNat_natCast] at hx
            have k4 : (k : Int) < (R.length : Int) := by omega
            have k5 : 0 ≤ (k : Int) := by omega
            have HKN := Aside0.mk hk
            have HKR := Aside0.mk HRL.out
            have k6 : k ≤ 16 := by have := HRL.out; omega
            generalize R[k] = el1 at *
            clear hk dw hrd
            cases m with
            | true =>
              have HM2 := Aside0.mk (show decide ((o : Int) ∈ R.take (k + 1)) = true by rw [hst]; rfl)
              clear hst
              go_wp2
              go_roundg (gk - 1)
              case measure => have := HK2.out; have := HKN.out; omega
              case rel => exact ⟨k + 1, true, rfl, by first | rw [HDW2.out] | rfl | simp, ⟨by have := HK2.out; have := HKN.out; omega⟩, HM2, HBo, HBB, HC⟩
            | false =>
              by_cases he : el1 = (o : Int)
              · have b2 : (el1 == (o : Int)) = true := beq_iff_eq.2 he
                have HM2 := Aside0.mk (show decide ((o : Int) ∈ R.take (k + 1)) = true by rw [hst, decide_eq_true he]; rfl)
                clear hst
                subst he
                go_wp2
                go_roundg (gk - 1)
                case measure => have := HK2.out; have := HKN.out; omega
                case rel => exact ⟨k + 1, true, rfl, by first | rw [HDW2.out] | rfl | simp, ⟨by have := HK2.out; have := HKN.out; omega⟩, HM2, HBo, HBB, HC⟩
              · have b2 : (el1 == (o : Int)) = false := beq_eq_false_iff_ne.2 he
                have HM2 := Aside0.mk (show decide ((o : Int) ∈ R.take (k + 1)) = false by rw [hst, decide_eq_false he]; rfl)
                clear hst he
                go_wp2
                go_roundg (gk - 1)
                case measure => have := HK2.out; have := HKN.out; omega
                case rel => exact ⟨k + 1, false, rfl, by first | rw [HDW2.out] | rfl | simp, ⟨by have := HK2.out; have := HKN.out; omega⟩, HM2, HBo, HBB, HC⟩
          · obtain rfl : k = R.length := by have := HK2.out; omega
            have b1 : decide (R.length < R.length) = false := decide_eq_false (by omega)
            have hm2 : m = decide ((K : Int) - (t : Int) + 1 = 1) := by rw [← HME.out, ← HM.out, List.take_length]
            clear hk
            by_cases htK : t = K
            · have b4 : (t == K) = true := beq_iff_eq.2 htK
              have b5 : ((t : Int) == (K : Int)) = true := beq_iff_eq.2 (by omega)
              rw [decide_eq_true (show (K : Int) - (t : Int) + 1 = 1 by omega)] at hm2
              subst hm2
              clear htK
              go_wp2
              go_roundg (ko - 1)
              case measure => have := HK.out; have := HKK.out; omega
              case rel => exact ⟨t + 1, s1, by first | rfl | simp, ⟨by have := HK.out; have := HTK.out; have := HKK.out; omega⟩, ⟨HBo.out.cast (by omega), by have := HNW.out; omega⟩, HBB⟩
            · have b4 : (t == K) = false := beq_eq_false_iff_ne.2 htK
              have b5 : ((t : Int) == (K : Int)) = false := beq_eq_false_iff_ne.2 (by omega)
              rw [decide_eq_false (show ¬ (K : Int) - (t : Int) + 1 = 1 by omega)] at hm2
              subst hm2
              clear htK
              go_wp2
              go_roundg (ko - 1)
              case measure => have := HK.out; have := HKK.out; omega
              case rel => exact ⟨t + 1, s1, by first | rfl | simp, ⟨by have := HK.out; have := HTK.out; have := HKK.out; omega⟩, ⟨HBo.out.cast (by omega), by have := HNW.out; omega⟩, HBB⟩
    · obtain rfl : t = K + 1 := by have := HK.out; omega
      have b0 : decide (((K + 1 : Nat) : Int) ≤ (K : Int)) = false := decide_eq_false (by omega)
      have b0' : decide (K + 1 ≤ K) = false := decide_eq_false (by omega)
      clear htk
      have HBo := Aside0.mk HS.out.1
      have HL0 := Aside0.mk (show left s (o : Int) = 0 by rw [one_left HBo.out.inv HO.out HBo.out.eq]; omega)
      clear HS
      go_wp2_with (go_at_call 10; (with_reducible refine (left_g _ g (o : Int) 0 s HBo.out.v HBo.out.inv.good.set HL0.out).mono ?_); rintro e w5 ⟨rfl, hd⟩; have n1_ := Aside0.mk (HB.out.trans (below_drawn _ hd)); clear HB hd; have HB := n1_; clear n1_)
      go_ret
      exact ⟨rfl, HB.out⟩
theorem comes_all (w : World) (ht : Tabs w) (a0 a1 : Int) (A : Option Addr) (c : Nat) (l : List Act3) (hl : Acts w A l) (hg : ∀ x ∈ l, gA x) (w0 : (Lit.int .u8 a0).wf = true) (w1 : (Lit.int .i64 a1).wf = true) (hn : l.length ≤ maxLen) :
    Calls Tryd.prog 3 #[.int .u8 a0, .int .i64 a1, .slice A l.length c] w fun e w' => e = .returned (.bool true) ∧ Below w.heap.size w w' := by
  have r0 := bounds_u8 w0
  by_cases e0 : a1 < 1
  · have HAw := Aside0.mk (awake_f w ht)
    have d0 := decide_eq_true e0
    generalize l.length = n at *
    clear e0 hl hg ht r0 w0 w1 hn
    go_enter Tryd.func3, Tryd.ntmps3
    go_wp2_with (go_at_call 6; refine HAw.out.mono ?_; rintro e w' ⟨rfl, hb⟩; have HB := Aside0.mk hb; clear hb HAw)
    go_ret
    exact ⟨rfl, HB.out⟩
  · by_cases e1 : 300 < a1
    · have HAw := Aside0.mk (awake_f w ht)
      have d0 := decide_eq_false e0
      have d1 := decide_eq_true e1
      generalize l.length = n at *
      clear e0 e1 hl hg ht r0 w0 w1 hn
      go_enter Tryd.func3, Tryd.ntmps3
      go_wp2_with (go_at_call 6; refine HAw.out.mono ?_; rintro e w' ⟨rfl, hb⟩; have HB := Aside0.mk hb; clear hb HAw)
      go_ret
      exact ⟨rfl, HB.out⟩
    · by_cases e2 : (60 : Int) < (l.length : Int)
      · have HAw := Aside0.mk (awake_f w ht)
        have d0 := decide_eq_false e0
        have d1 := decide_eq_false e1
        have d2 := decide_eq_true e2
        generalize l.length = n at *
        clear e0 e1 e2 hl hg ht r0 w0 w1 hn
        go_enter Tryd.func3, Tryd.ntmps3
        go_wp2_with (go_at_call 6; refine HAw.out.mono ?_; rintro e w' ⟨rfl, hb⟩; have HB := Aside0.mk hb; clear hb HAw)
        go_ret
        exact ⟨rfl, HB.out⟩
      · obtain ⟨K, rfl⟩ := Int.eq_ofNat_of_zero_le (show 0 ≤ a1 by omega)
        exact comes_walk w ht a0 r0.1 r0.2 K (by omega) (by omega) A c l hl hg l.length rfl (by omega)
end Go.Proofs.YtbpjcgahdgpmhaaDoor.Whl
