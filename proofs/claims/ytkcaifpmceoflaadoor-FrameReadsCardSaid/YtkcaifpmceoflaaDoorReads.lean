/- The walks of the laws FrameReads and FrameSealed. Conditions: those that each statement names. -/
import Derived.Test.YtkcaifpmceoflaaDoorRErr2
import Derived.Deep.RegionHeldLaw
import Derived.Test.YtkcaifpmceoflaaDoorCuts
import Derived.Test.YtkcaifpmceoflaaDoorBurstLaw
namespace Go.Proofs.YtkcaifpmceoflaaDoor.Frm
open Go.RowKit Go.Proofs.YtkcaifpmceoflaaDoorW.PrintWords Go.Proofs.YtkcaifpmceoflaaDoorW.PrintLast Go.Proofs.YtkcaifpmceoflaaDoorW.PrintMore
set_option linter.unusedVariables false
set_option linter.unusedSimpArgs false
theorem dz18 (w : World) : ∃ W0, w.alloc (.cells #[.int .i64 0, .int .u8 0, .int .u8 0, .int .u16 0, .int .u16 0, .int .u16 0, .int .u8 0, .int .u16 0, .int .u16 0, .int .u16 0, .int .u8 0, .int .u16 0, .bool false, .int .u8 0, .int .u16 0, .int .u32 0, .int .u8 0, .int .u8 0, .string ⟨#[]⟩] 29) = W0 ∧ Dc w W0 w.heap.size := by
  obtain ⟨W0, h, hN, hB⟩ := rd_new w
  exact ⟨W0, h, Dc.start hN hB⟩
theorem rFrame_end {w : World} {R : Nat} {f : Fr} (h : FAt w R fz) (tmps : Array Value) (h2 : tmps.getD 2 undef = .pointer (some ⟨R, 0, none⟩)) :
    (results Tryd.f18 tmps).run Tryd.prog (w.setRow R (FC f)) = .ok (.agg (FC f)) (w.setRow R (FC f)) := by
  have h2' : tmps[2]?.getD undef = .pointer (some ⟨R, 0, none⟩) := by simpa using h2
  have hl := run_loadVar_row (P := Tryd.prog) (w.setRow R (FC f)) R 29 29 (FC f) (0, 0) _ (setRow_heap _ _ _ _ _ _ h) Tryd.underlying29 rfl (by kernel_rfl)
  simp [results, Tryd.results18, h2', asAddr, hl]
theorem rFrame_f (w : World) (s : ByteArray) (hl : isLen s) (hz : okSize (nat s 0 1) s.size) (g : Fr) (hg : rdf (ahead s) = g) : Calls Tryd.prog 18 #[.string s] w fun e w' => e = .returned (.agg (FC g)) ∧ Below w.heap.size w w' := by
  have HF := Aside0.mk fun W : World => rframe_f W s hl hz
  rw [hg] at HF
  obtain ⟨W0, hW0, hd⟩ := dz18 w
  have HD := Aside0.mk hd
  clear hl hz hg hd
  go_enter Tryd.func18, Tryd.ntmps18
  go_upto_region 1 with (fail)
  try rw [hW0]
  clear hW0
  generalize w.heap.size = R at *
  go_wp2_with (first | (go_at_call 41; (with_reducible refine (HF.out _).mono ?_); rintro e w1 ⟨rfl, hb⟩; have n0_ := Aside0.mk (HD.out.on hb); clear HD hb; have HD := n0_; clear n0_) | ((with_reducible refine gate_store (t := 29) (p := 2) rfl ?_); refine wpList_store_row rfl 29 (.tmp 2) (.tmp 4) rfl R (FC g) rfl rfl 29 (FC fz) HD.out.res (by kernel_rfl) rfl (fc_one _) ?_))
  exact bodyPost_ret (rFrame_end HD.out.res _ rfl) rfl ⟨rfl, HD.out.last _⟩
theorem derr_ok (s : ByteArray) (h : derr s = 0) : isLen s ∧ crc s = 0#16 ∧ okSize (nat s 0 1) s.size ∧ rdb (ahead s) = true ∧ right (rdf (ahead s)) = true := by
  unfold derr at h
  split at h
  · rename_i h1
    split at h
    · rename_i h2
      split at h
      · split at h
        · rename_i h4
          split at h
          · rename_i h5
            exact ⟨h1, h2, h4, h5.1, h5.2⟩
          · exact absurd h (by decide)
        · exact absurd h (by decide)
      · exact absurd h (by decide)
    · exact absurd h (by decide)
  · exact absurd h (by decide)
theorem reads_long (w : World) (s : ByteArray) (ht : Own.Tabs w) (h : 400 < s.size) : Calls Tryd.prog 4 #[.string s] w fun e w' => e = .returned (.bool true) ∧ Below w.heap.size w w' := by
  have HA := Aside0.mk awake_f
  have HST := Aside0.mk (St.start w ht)
  have d1 : decide (400 < (s.size : Int)) = true := decide_eq_true (by omega)
  clear h ht
  go_enter Tryd.func4, Tryd.ntmps4
  go_upto_region 3 with ((go_at_call 8; (with_reducible refine (HA.out _ HST.out.tab).mono ?_); rintro e w1 ⟨rfl, hb⟩; have n0_ := Aside0.mk (HST.out.on hb); clear HST hb; have HST := n0_; clear n0_))
  go_wp2
  go_ret
  exact ⟨rfl, HST.out.below⟩
set_option maxHeartbeats 1000000 in
theorem reads_bad (w : World) (s : ByteArray) (ht : Own.Tabs w) (h : s.size ≤ 400) (hd : derr s ≠ 0) : Calls Tryd.prog 4 #[.string s] w fun e w' => e = .returned (.bool true) ∧ Below w.heap.size w w' := by
  have HA := Aside0.mk awake_f
  have HST := Aside0.mk (St.start w ht)
  have HD := Aside0.mk fun W : World => dec_f W s (by omega)
  have HR := Aside0.mk fun W : World => rerr_f W s (by omega)
  have d1 : decide (400 < (s.size : Int)) = false := decide_eq_false (by omega)
  rw [show decf s = fz by unfold decf; rw [if_neg hd], fc_fz] at HD
  generalize derr s = d at *
  have q1 : (d != 0) = true := bne_iff_ne.2 hd
  have q2 : (d != d) = false := bne_self_eq_false d
  clear h ht hd
  go_enter Tryd.func4, Tryd.ntmps4
  go_upto_region 3 with ((go_at_call 8; (with_reducible refine (HA.out _ HST.out.tab).mono ?_); rintro e w1 ⟨rfl, hb⟩; have n0_ := Aside0.mk (HST.out.on hb); clear HST hb; have HST := n0_; clear n0_))
  go_upto_region 6 with (first | (go_at_call 15; (with_reducible refine (HD.out _).mono ?_); rintro e w2 ⟨rfl, hb⟩; obtain ⟨W_, hW, hlk, hst⟩ := (HST.out.on hb).new (fz); have HW := Aside0.mk hW; have HLK := Aside0.mk hlk; clear HST hb hW hlk; have HST := Aside0.mk hst; clear hst) | ((with_reducible refine gate_store (t := 29) (p := 3) rfl ?_); refine wpList_store_row rfl 29 (.tmp 3) (.tmp 16) rfl _ (ZC) rfl rfl 29 _ HLK.out (by kernel_rfl) rfl (by kernel_rfl) ?_; refine (congrArg (fun W => wpList Tryd.prog _ _ _ _ W) HW.out).mpr ?_; clear HW HLK))
  generalize w2.heap.size = E at *
  go_wp2_with (first | (go_at_call 17; (with_reducible refine (HR.out _).mono ?_); rintro e w3 ⟨rfl, hb⟩; have n0_ := Aside0.mk (HST.out.on hb); clear HST hb; have HST := n0_; clear n0_) | ((with_reducible refine gate_dst (N := 25) rfl ?_); refine wpList_load_row rfl 29 (.tmp 3) rfl _ rfl 29 (ZC) (0, 0) _ (HST.out.fr (E, fz) (by simp)) Tryd.underlying29 rfl (by kernel_rfl) ?_))
  all_goals go_ret
  all_goals exact ⟨rfl, HST.out.below⟩
set_option maxHeartbeats 1000000 in
set_option maxRecDepth 100000 in
theorem reads_ok (w : World) (s : ByteArray) (ht : Own.Tabs w) (h : s.size ≤ 400) (hd : derr s = 0) : Calls Tryd.prog 4 #[.string s] w fun e w' => e = .returned (.bool true) ∧ Below w.heap.size w w' := by
  have HA := Aside0.mk awake_f
  have HST := Aside0.mk (St.start w ht)
  have HD := Aside0.mk fun W : World => dec_f W s (by omega)
  have HR := Aside0.mk fun W : World => rerr_f W s (by omega)
  have d1 : decide (400 < (s.size : Int)) = false := decide_eq_false (by omega)
  obtain ⟨hl, hc, hz, hb, hr⟩ := derr_ok s hd
  have HF := Aside0.mk fun W : World => rFrame_f W s hl hz _ rfl
  have HE := Aside0.mk fun W : World => enc_r W (rdf (ahead s)) hr
  rw [back_all s hl hc hz hb hr] at HE
  rw [hd, show decf s = rdf (ahead s) by unfold decf; rw [if_pos hd]] at HD
  rw [hd] at HR
  generalize rdf (ahead s) = g at *
  clear h ht hd hl hc hz hb hr
  go_enter Tryd.func4, Tryd.ntmps4
  go_upto_region 3 with ((go_at_call 8; (with_reducible refine (HA.out _ HST.out.tab).mono ?_); rintro e w1 ⟨rfl, hb⟩; have n0_ := Aside0.mk (HST.out.on hb); clear HST hb; have HST := n0_; clear n0_))
  go_upto_region 6 with (first | (go_at_call 15; (with_reducible refine (HD.out _).mono ?_); rintro e w2 ⟨rfl, hb⟩; obtain ⟨W_, hW, hlk, hst⟩ := (HST.out.on hb).new (g); have HW := Aside0.mk hW; have HLK := Aside0.mk hlk; clear HST hb hW hlk; have HST := Aside0.mk hst; clear hst) | ((with_reducible refine gate_store (t := 29) (p := 3) rfl ?_); refine wpList_store_row rfl 29 (.tmp 3) (.tmp 16) rfl _ (FC (g)) rfl rfl 29 _ HLK.out (by kernel_rfl) rfl (fc_one _) ?_; refine (congrArg (fun W => wpList Tryd.prog _ _ _ _ W) HW.out).mpr ?_; clear HW HLK))
  generalize w2.heap.size = E at *
  go_upto_region 12 with (first | (go_at_call 17; (with_reducible refine (HR.out _).mono ?_); rintro e w3 ⟨rfl, hb⟩; have n0_ := Aside0.mk (HST.out.on hb); clear HST hb; have HST := n0_; clear n0_) | ((with_reducible refine gate_dst (N := 29) rfl ?_); refine wpList_load_row rfl 29 (.tmp 3) rfl _ rfl 29 (FC (g)) (0, 0) _ (HST.out.fr (E, g) (by simp)) Tryd.underlying29 rfl (by kernel_rfl) ?_) | (go_at_call 9; (with_reducible refine (HE.out _).mono ?_); rintro e w4 ⟨rfl, hb⟩; have n0_ := Aside0.mk (HST.out.on hb); clear HST hb; have HST := n0_; clear n0_))
  refine wp_region_held_drew (S := fun w' => FAt w' E g) (by kernel_rfl) (HST.out.fr (E, g) (by simp)) (fun hHeld => ?_)
  have n0_ := Aside0.mk (HST.out.on (w' := w4.drew) ⟨rfl, rfl, rfl, Nat.le_refl _, fun _ _ => rfl⟩)
  clear HST
  have HST := n0_
  clear n0_
  refine wpAnyH_take (i := 0) (oi := _) (v := ?vv1) rfl (by kernel_rfl) (by kernel_rfl) (by kernel_rfl) (fun _ _ _ h => h) (Or.inl ⟨by rfl, ?hy1⟩) (by assumption) ?go1
  case hy1 =>
    intro w_ hSw
    exact row_load g E w_ (FAt.range hSw)
  simp only [List.getElem_toArray, List.getElem_cons_succ, List.getElem_cons_zero, Act.put, List.setIfInBounds_toArray, List.set_cons_zero, List.set_cons_succ]
  refine wpAnyH_take (i := 1) (oi := _) (v := ?vv2) rfl (by kernel_rfl) (by kernel_rfl) (by kernel_rfl) (fun _ _ _ h => h) (Or.inl ⟨by rfl, ?hy2⟩) (by assumption) ?go2
  case hy2 =>
    intro w_ hSw
    go_simp
    try with_reducible rfl
  simp only [List.getElem_toArray, List.getElem_cons_succ, List.getElem_cons_zero, Act.put, List.setIfInBounds_toArray, List.set_cons_zero, List.set_cons_succ]
  refine wpAnyH_ready (rs := [2]) (by kernel_rfl) (by simp) ?_
  refine AllReadyH.cons rfl (fun K hK => ?_) AllReadyH.nil
  go_simp
  go_wp2_with (go_at_call 18; (with_reducible refine (HF.out _).mono ?_); rintro e w5 ⟨rfl, hb⟩; have n0_ := Aside0.mk (HST.out.on hb); clear HST hb; have HST := n0_; clear n0_)
  refine hK.out _ _ (HST.out.fr (E, g) (by simp)) (fun hHeld2 => ?_)
  clear hK K hHeld
  have hHeld := hHeld2
  clear hHeld2
  refine wpAnyH_take (i := 3) (oi := _) (v := ?vv3) rfl (by kernel_rfl) (by kernel_rfl) (by kernel_rfl) (fun _ _ _ h => h) (Or.inl ⟨by rfl, ?hy3⟩) (by assumption) ?go3
  case hy3 =>
    intro w_ hSw
    go_simp
    try with_reducible rfl
  simp only [List.getElem_toArray, List.getElem_cons_succ, List.getElem_cons_zero, Act.put, List.setIfInBounds_toArray, List.set_cons_zero, List.set_cons_succ]
  refine wpAnyH_take (i := 4) (oi := _) (v := ?vv4) rfl (by kernel_rfl) (by kernel_rfl) (by kernel_rfl) (fun _ _ _ h => h) (Or.inl ⟨by rfl, ?hy4⟩) (by assumption) ?go4
  case hy4 =>
    intro w_ hSw
    go_simp
    try with_reducible rfl
  simp only [List.getElem_toArray, List.getElem_cons_succ, List.getElem_cons_zero, Act.put, List.setIfInBounds_toArray, List.set_cons_zero, List.set_cons_succ]
  refine wpAnyH_take (i := 5) (oi := _) (v := ?vv5) rfl (by kernel_rfl) (by kernel_rfl) (by kernel_rfl) (fun _ _ _ h => h) (Or.inl ⟨by rfl, ?hy5⟩) (by assumption) ?go5
  case hy5 =>
    intro w_ hSw
    go_simp
    try with_reducible rfl
  simp only [List.getElem_toArray, List.getElem_cons_succ, List.getElem_cons_zero, Act.put, List.setIfInBounds_toArray, List.set_cons_zero, List.set_cons_succ]
  refine wpAnyH_take (i := 6) (oi := _) (v := ?vv6) rfl (by kernel_rfl) (by kernel_rfl) (by kernel_rfl) (fun _ _ _ h => h) (Or.inl ⟨by rfl, ?hy6⟩) (by assumption) ?go6
  case hy6 =>
    intro w_ hSw
    go_simp
    try with_reducible rfl
  simp only [List.getElem_toArray, List.getElem_cons_succ, List.getElem_cons_zero, Act.put, List.setIfInBounds_toArray, List.set_cons_zero, List.set_cons_succ]
  refine wpAnyH_take (i := 7) (oi := _) (v := ?vv7) rfl (by kernel_rfl) (by kernel_rfl) (by kernel_rfl) (fun _ _ _ h => h) (Or.inl ⟨by rfl, ?hy7⟩) (by assumption) ?go7
  case hy7 =>
    intro w_ hSw
    go_simp
    try with_reducible rfl
  simp only [List.getElem_toArray, List.getElem_cons_succ, List.getElem_cons_zero, Act.put, List.setIfInBounds_toArray, List.set_cons_zero, List.set_cons_succ]
  refine wpAnyH_take (i := 8) (oi := _) (v := ?vv8) rfl (by kernel_rfl) (by kernel_rfl) (by kernel_rfl) (fun _ _ _ h => h) (Or.inl ⟨by rfl, ?hy8⟩) (by assumption) ?go8
  case hy8 =>
    intro w_ hSw
    go_simp
    try with_reducible rfl
  simp only [List.getElem_toArray, List.getElem_cons_succ, List.getElem_cons_zero, Act.put, List.setIfInBounds_toArray, List.set_cons_zero, List.set_cons_succ]
  refine wpAnyH_take (i := 9) (oi := _) (v := ?vv9) rfl (by kernel_rfl) (by kernel_rfl) (by kernel_rfl) (fun _ _ _ h => h) (Or.inl ⟨by rfl, ?hy9⟩) (by assumption) ?go9
  case hy9 =>
    intro w_ hSw
    go_simp
    try with_reducible rfl
  simp only [List.getElem_toArray, List.getElem_cons_succ, List.getElem_cons_zero, Act.put, List.setIfInBounds_toArray, List.set_cons_zero, List.set_cons_succ]
  refine wpAnyH_take (i := 10) (oi := _) (v := ?vv10) rfl (by kernel_rfl) (by kernel_rfl) (by kernel_rfl) (fun _ _ _ h => h) (Or.inl ⟨by rfl, ?hy10⟩) (by assumption) ?go10
  case hy10 =>
    intro w_ hSw
    go_simp
    try with_reducible rfl
  simp only [List.getElem_toArray, List.getElem_cons_succ, List.getElem_cons_zero, Act.put, List.setIfInBounds_toArray, List.set_cons_zero, List.set_cons_succ]
  refine wpAnyH_take (i := 11) (oi := _) (v := ?vv11) rfl (by kernel_rfl) (by kernel_rfl) (by kernel_rfl) (fun _ _ _ h => h) (Or.inl ⟨by rfl, ?hy11⟩) (by assumption) ?go11
  case hy11 =>
    intro w_ hSw
    go_simp
    try with_reducible rfl
  simp only [List.getElem_toArray, List.getElem_cons_succ, List.getElem_cons_zero, Act.put, List.setIfInBounds_toArray, List.set_cons_zero, List.set_cons_succ]
  refine wpAnyH_take (i := 12) (oi := _) (v := ?vv12) rfl (by kernel_rfl) (by kernel_rfl) (by kernel_rfl) (fun _ _ _ h => h) (Or.inl ⟨by rfl, ?hy12⟩) (by assumption) ?go12
  case hy12 =>
    intro w_ hSw
    go_simp
    try with_reducible rfl
  simp only [List.getElem_toArray, List.getElem_cons_succ, List.getElem_cons_zero, Act.put, List.setIfInBounds_toArray, List.set_cons_zero, List.set_cons_succ]
  refine wpAnyH_take (i := 13) (oi := _) (v := ?vv13) rfl (by kernel_rfl) (by kernel_rfl) (by kernel_rfl) (fun _ _ _ h => h) (Or.inl ⟨by rfl, ?hy13⟩) (by assumption) ?go13
  case hy13 =>
    intro w_ hSw
    go_simp
    try with_reducible rfl
  simp only [List.getElem_toArray, List.getElem_cons_succ, List.getElem_cons_zero, Act.put, List.setIfInBounds_toArray, List.set_cons_zero, List.set_cons_succ]
  refine wpAnyH_done (by kernel_rfl) ?_ _
  go_wp2_with (fail)
  go_ret
  exact ⟨rfl, HST.out.below⟩
theorem reads_f (w : World) (s : ByteArray) (ht : Own.Tabs w) : Calls Tryd.prog 4 #[.string s] w fun e w' => e = .returned (.bool true) ∧ Below w.heap.size w w' := by
  by_cases h : 400 < s.size
  · exact reads_long w s ht h
  · by_cases hd : derr s = 0
    · exact reads_ok w s ht (by omega) hd
    · exact reads_bad w s ht (by omega) hd
theorem sealed_out (w : World) (s : ByteArray) (ht : Own.Tabs w) (h : s.size < 2 ∨ 60 < s.size) : Calls Tryd.prog 5 #[.string s] w fun e w' => e = .returned (.bool true) ∧ Below w.heap.size w w' := by
  have HA := Aside0.mk awake_f
  have HST := Aside0.mk (St.start w ht)
  by_cases h2 : s.size < 2
  · have d1 : decide ((s.size : Int) < 2) = true := decide_eq_true (by omega)
    clear h h2 ht
    go_enter Tryd.func5, Tryd.ntmps5
    go_upto_region 3 with ((go_at_call 8; (with_reducible refine (HA.out _ HST.out.tab).mono ?_); rintro e w1 ⟨rfl, hb⟩; have n0_ := Aside0.mk (HST.out.on hb); clear HST hb; have HST := n0_; clear n0_))
    go_wp2
    go_ret
    exact ⟨rfl, HST.out.below⟩
  · have d1 : decide ((s.size : Int) < 2) = false := decide_eq_false (by omega)
    have d2 : decide (60 < (s.size : Int)) = true := decide_eq_true (by omega)
    clear h h2 ht
    go_enter Tryd.func5, Tryd.ntmps5
    go_upto_region 3 with ((go_at_call 8; (with_reducible refine (HA.out _ HST.out.tab).mono ?_); rintro e w1 ⟨rfl, hb⟩; have n0_ := Aside0.mk (HST.out.on hb); clear HST hb; have HST := n0_; clear n0_))
    go_wp2
    go_ret
    exact ⟨rfl, HST.out.below⟩
set_option maxHeartbeats 1000000 in
theorem sealed_in (w : World) (s : ByteArray) (ht : Own.Tabs w) (h : 2 ≤ s.size ∧ s.size ≤ 60) : Calls Tryd.prog 5 #[.string s] w fun e w' => e = .returned (.bool true) ∧ Below w.heap.size w w' := by
  have HA := Aside0.mk awake_f
  have HST := Aside0.mk (St.start w ht)
  have d1 : decide ((s.size : Int) < 2) = false := decide_eq_false (by omega)
  have d2 : decide (60 < (s.size : Int)) = false := decide_eq_false (by omega)
  obtain ⟨L, hL⟩ : ∃ L, bytesOf s = L := ⟨_, rfl⟩
  have hlen : L.length = s.size := by rw [← hL]; exact bytesOf_length s
  obtain ⟨n, hn⟩ : ∃ n, s.size = n := ⟨_, rfl⟩
  have HN := Aside0.mk hn
  rw [hn] at d1 d2 hlen h
  have kb := fun W => print_bytes (P := Tryd.prog) 9 42 5 Tryd.underlying9 Tryd.underlying42 Tryd.underlying5 s W
  have y1 : 2 ≤ (n : Int) := by omega
  have y2 : (n : Int) ≤ 60 := by omega
  have y3 : 1 < n := by omega
  have v1 : ((n : Int) + 2) % 256 = (n : Int) + 2 := by omega
  have HL := Aside0.mk hL
  have HLEN := Aside0.mk hlen
  clear ht h hL hlen
  go_enter Tryd.func5, Tryd.ntmps5
  go_upto_region 3 with ((go_at_call 8; (with_reducible refine (HA.out _ HST.out.tab).mono ?_); rintro e w1 ⟨rfl, hb⟩; have n0_ := Aside0.mk (HST.out.on hb); clear HST hb; have HST := n0_; clear n0_))
  go_upto_region 6 with (fail)
  have hr := BRow.new w1 s
  rw [HL.out] at hr
  have hb0 := bytes_below (Below.refl w1.heap.size w1) (Nat.le_refl _) 5 s
  have HST0 := HST
  have c1 := hr.cell 1 (by rw [HLEN.out]; exact y3)
  have c2 := hr.free 1 (by rw [HLEN.out]; exact y3)
  have hs := hr.set 1 (by rw [HLEN.out]; exact y3) ((n : Int) + 2)
  have HR := Aside0.mk hs
  have hB3 : Below w1.heap.size w1 ((Lib.bytesWorld w1 5 s).setCell ⟨w1.heap.size, 1, none⟩ (.int .u8 ((n : Int) + 2))) := hb0.setCell (Nat.le_refl _) _
  have HB3 := Aside0.mk hB3
  have n0_ := Aside0.mk HST0.out
  clear HST0
  have HST0 := n0_
  clear n0_ hr hs hb0 hB3
  generalize hG : w1.heap.size = G at *
  have HG := Aside0.mk hG
  clear hG
  generalize Lib.bytesWorld w1 5 s = W2 at *
  go_upto_region 7 with (fail)
  clear c1 c2 kb
  have HST2 := Aside0.mk (HST0.out.on (by rw [HG.out]; exact HB3.out))
  have hcv := HR.out.str (c := grownCap w1 n 0 5) (by rw [List.length_set, HLEN.out]; omega)
  rw [List.length_set, HLEN.out] at hcv
  have hxs : (strOfNums (L.set 1 ((n : Int) + 2))).size ≤ 1000000 := by rw [strOfNums_size, List.length_set, HLEN.out]; omega
  have HSE := Aside0.mk fun W : World => rsealed_f W _ hxs
  have HRD := Aside0.mk reads_f
  generalize strOfNums (L.set 1 ((n : Int) + 2)) = x at *
  clear hxs
  generalize W2.setCell ⟨G, 1, none⟩ (.int .u8 ((n : Int) + 2)) = W3 at *
  go_wp2_with (first | (go_at_call 19; (with_reducible refine (HSE.out _).mono ?_); rintro e w3 ⟨rfl, hb⟩; have n0_ := Aside0.mk (HST2.out.on hb); clear HST2 hb; have HST2 := n0_; clear n0_) | (go_at_call 4; (with_reducible refine (HRD.out _ _ HST2.out.tab).mono ?_); rintro e w4 ⟨rfl, hb⟩; have n0_ := Aside0.mk (HST2.out.on hb); clear HST2 hb; have HST2 := n0_; clear n0_))
  go_ret
  exact ⟨rfl, HST2.out.below⟩
theorem sealedlaw_f (w : World) (s : ByteArray) (ht : Own.Tabs w) : Calls Tryd.prog 5 #[.string s] w fun e w' => e = .returned (.bool true) ∧ Below w.heap.size w w' := by
  by_cases h : s.size < 2 ∨ 60 < s.size
  · exact sealed_out w s ht h
  · exact sealed_in w s ht (by omega)
end Go.Proofs.YtkcaifpmceoflaaDoor.Frm
