/- The wheel skips ticks: the walk. Conditions: those that each statement names. -/
import Derived.Test.YtbpjcgahdgpmhaaDoorWheel4
namespace Go.Proofs.YtbpjcgahdgpmhaaDoor.Whl
open Go.RowKit Go.Proofs.YtbpjcgahdgpmhaaDoorW.PrintWords Go.Proofs.YtbpjcgahdgpmhaaDoorW.PrintLast Go.Proofs.YtbpjcgahdgpmhaaDoorW.PrintMore
set_option linter.unusedVariables false
attribute [local go_sem] max2_int min2_int max_two min_two
theorem tl_keeps : ∀ (k : Nat) (s : Wh) (l : Nat) (out : List Int) (r : Wh × List Int), tl k s l out = some r → Good s → Good r.1 ∧ r.1.now = s.now ∧ r.2.length ≤ out.length + k
  | 0, _, _, _, _, h, _ => by simp [tl] at h
  | k + 1, s, l, out, r, h, g => by
    simp only [tl] at h
    split at h
    · obtain rfl := Option.some.inj h
      exact ⟨g, rfl, by simp⟩
    · split at h
      · obtain ⟨h1, h2, h3⟩ := tl_keeps k _ _ _ r h (canc_good g _)
        refine ⟨h1, h2.trans (canc_now s _), ?_⟩
        simp only [List.length_append, List.length_cons, List.length_nil] at h3
        omega
      · obtain ⟨h1, h2, h3⟩ := tl_keeps k _ _ _ r h g
        exact ⟨h1, h2, by omega⟩
theorem tick_keeps {s : Wh} {r : Wh × List Int} (h : tick s = some r) (g : Good s) (hn : s.now < 1000000000000) : Good r.1 ∧ r.1.now ≤ s.now + 1 ∧ r.2.length ≤ 20 := by
  unfold tick at h
  obtain ⟨rr, h1, rfl⟩ := Option.map_eq_some_iff.1 h
  obtain ⟨g1, g2, g3⟩ := tl_keeps _ _ _ _ _ h1 ⟨g.set, g.due, g.spoke, by have := g.now0; show 0 ≤ s.now + 1; omega, by show s.now + 1 ≤ _; omega⟩
  simp only at g2
  refine ⟨?_, ?_, by simpa using g3⟩
  · show Good (rest rr.1)
    unfold rest
    split
    · exact ⟨g1.set, g1.due, g1.spoke, by show (0 : Int) ≤ 0; omega, by show (0 : Int) ≤ _; omega⟩
    · exact g1
  · show (rest rr.1).now ≤ _
    unfold rest
    split
    · show (0 : Int) ≤ _; have := g.now0; omega
    · omega
def idle (s : Wh) (n : Int) : Int := mn (soon s).1 n - 1
def far (s : Wh) (n : Int) : Wh := if 0 < idle s n then { s with now := s.now + idle s n } else s
def farn (s : Wh) (n : Int) : Int := if 0 < idle s n then n - idle s n else n
def skp : Nat → Wh → Int → List Int → Option (Wh × List Int)
  | 0, _, _, _ => none
  | k + 1, s, n, out => if n ≤ 0 then some (s, out) else if (soon s).2 = true then (tick (far s n)).bind fun r => skp k r.1 (farn s n - 1) (out ++ r.2) else some (s, out)
theorem sfold_pos (f : Nat → Int) : ∀ i, (sfold f i).2 = true → 0 < (sfold f i).1
  | 0, h => by simp [sfold] at h
  | i + 1, h => by
    rw [sfold_succ] at h ⊢
    unfold sstep at h ⊢
    split
    · rename_i c; exact c.1
    · rename_i c; rw [if_neg c] at h; exact sfold_pos f i h
set_option maxHeartbeats 4000000 in
theorem skip_f (w : World) (g : Nat) (s : Wh) (n : Int) (k : Nat) (r : Wh × List Int) (h : At w g s) (hg : 0 < g) (hs : Good s) (hn : s.now + mn n 20000 ≤ 100000000000) (hn0 : -9223372036854775808 ≤ n) (ht : Tabs w) (hr : skp k s (mn n 20000) [] = some r) :
    Calls Tryd.prog 16 #[.pointer (some ⟨g, 0, none⟩), .int .i64 n] w fun e w' => ∃ v, e = .returned v ∧ Out w' w.heap.size v r.2 ∧ At w' g r.1 ∧ Turn g w w' := by
  have HG := Aside0.mk h.in
  have HG0 := Aside0.mk hg
  have HT := Aside0.mk ht
  have HA := Aside0.mk h
  have HGd := Aside0.mk hs
  have HN := Aside0.mk hn
  have HR1 := Aside0.mk hr
  have hm : mn n 20000 ≤ 20000 := by unfold mn; split <;> omega
  have hm0 : -9223372036854775808 ≤ mn n 20000 := by unfold mn; split <;> omega
  obtain ⟨m, hmm⟩ : ∃ m, mn n 20000 = m := ⟨_, rfl⟩
  rw [hmm] at HN HR1 hm hm0
  have HM := Aside0.mk (And.intro hm hm0)
  have hmm' : (if (20000 : Int) < n then (20000 : Int) else n) = m := hmm
  clear h hg hs hn hn0 ht hr hm hm0 hmm
  go_enter Tryd.func16, Tryd.ntmps16
  go_wp2
  clear hmm'
  go_loopg [1, 5, 6, 7, 8] k (fun kq v1 v4 v5 v6 v7 w' => ∃ (m : Int) (s1 : Wh) (out : List Int), v1 = .int .i64 m ∧ Aside0 (skp kq s1 m out = some r) ∧ Aside0 (m ≤ 20000 ∧ -9223372036854775808 ≤ m ∧ s1.now + m ≤ 100000000000 ∧ out.length + 20 * m.toNat ≤ 400000) ∧ Aside0 (Out w' w.heap.size v4 out) ∧ Aside0 (At w' g s1) ∧ Aside0 (Good s1) ∧ Aside0 (Turn g w w'))
  case atStart => exact ⟨m, s, [], rfl, HR1, ⟨by have := HM.out; have := HN.out; simp only [List.length_nil]; omega⟩, ⟨Kd.R_nil _ _ _ _ _⟩, HA, HGd, ⟨Turn.refl g w⟩⟩
  case round =>
    clear HR1 HGd HA HM HN
    obtain ⟨m, s1, out, rfl, HH, HK, HO, HA, HGd, HTr⟩ := hrel
    cases gk with
    | zero => exact absurd HH.out (by simp [skp])
    | succ k1 =>
      have hh := HH.out
      clear HH
      simp only [skp] at hh
      by_cases h0 : m ≤ 0
      · rw [if_pos h0] at hh
        obtain rfl := Option.some.inj hh
        have b0 : decide (0 < m) = false := decide_eq_false (by omega)
        clear hh h0
        go_wp2
        go_ret
        exact ⟨_, rfl, HO.out, HA.out, HTr.out⟩
      · rw [if_neg h0] at hh
        have b0 : decide (0 < m) = true := decide_eq_true (by omega)
        have HSo := Aside0.mk fun (w1 : World) (a : At w1 g s1) => soon_f w1 g s1 a HGd.out.set
        by_cases hb : (soon s1).2 = true
        · rw [if_pos hb] at hh
          obtain ⟨tr, htr, hh⟩ := Option.bind_eq_some_iff.1 hh
          have hpos := sfold_pos _ 16 hb
          have HP := Aside0.mk hpos
          have HB := Aside0.mk hb
          obtain ⟨L, hL⟩ : ∃ L, (soon s1).1 = L := ⟨_, rfl⟩
          rw [hb, hL] at HSo
          have HPL := Aside0.mk (show 0 < L by rw [← hL]; exact hpos)
          have hid : idle s1 m = mn L m - 1 := by unfold idle; rw [hL]
          have hmn : 0 < mn L m ∧ mn L m ≤ m := by have := HPL.out; unfold mn; split <;> omega
          obtain ⟨M, hM⟩ : ∃ M, mn L m = M := ⟨_, rfl⟩
          rw [hM] at hid hmn
          have hM' : (if m < L then m else L) = M := hM
          obtain ⟨d, hd⟩ : ∃ d, M - 1 = d := ⟨_, rfl⟩
          have e1 : wrap64 (M - 1) = d := (w64 (by omega) (by have := HK.out; omega)).trans hd
          have HD := Aside0.mk (show 0 ≤ d ∧ d < m by omega)
          rw [hd] at hid
          have hnow := HA.out.now
          have hf0 := HA.out.live 0 (by omega)
          have HHn := Aside0.mk hh
          have HTR := Aside0.mk htr
          have HID := Aside0.mk hid
          clear hpos hb hL hmn hd hh htr hid h0 hM
          by_cases hdp : 0 < d
          · have b1 : decide (0 < d) = true := decide_eq_true hdp
            have e2 : wrap64 (s1.now + d) = s1.now + d := w64 (by have := HGd.out.now0; have := HD.out; omega) (by have := HK.out; have := HD.out; omega)
            have e3 : wrap64 (m - d) = m - d := w64 (by have := HK.out; have := HD.out; omega) (by have := HK.out; have := HD.out; omega)
            have e4 : wrap64 (m - d - 1) = m - d - 1 := w64 (by have := HK.out; have := HD.out; omega) (by have := HK.out; have := HD.out; omega)
            have ef : far s1 m = { s1 with now := s1.now + d } := by unfold far; rw [HID.out, if_pos hdp]
            have en : farn s1 m = m - d := by unfold farn; rw [HID.out, if_pos hdp]
            have ht := HTR.out
            have hh := HHn.out
            rw [ef] at ht
            rw [en] at hh
            clear HTR HHn
            have HH := Aside0.mk hh
            have hg2 : Good { s1 with now := s1.now + d } := ⟨HGd.out.set, HGd.out.due, HGd.out.spoke, by show 0 ≤ s1.now + d; have := HGd.out.now0; omega, by show s1.now + d ≤ _; have := HK.out; have := HD.out; omega⟩
            have hlt : s1.now + d < 1000000000000 := by have := HK.out; have := HD.out; omega
            have HKe := Aside0.mk (tick_keeps ht hg2 hlt)
            have HTk := Aside0.mk fun (w1 : World) (a : At w1 g { s1 with now := s1.now + d }) (t : Tabs w1) => tick_f w1 g _ tr a HG0.out hg2 hlt t ht
            clear hdp ef en ht hh hg2 hlt
            go_wp2_with (first | (go_at_call 21; refine (HSo.out _ HA.out).mono ?_; rintro e w' ⟨rfl, ⟨nd, rfl⟩⟩; have HND := Aside0.mk (Eq.refl nd)) | (go_at_call 11; (refine (HTk.out _ (by first | exact (HA.out.drawn ⟨_, rfl⟩).put_now (s1.now + d) | exact ((HA.out.drawn ⟨_, rfl⟩).put_now (s1.now + d)).drawn ⟨1, rfl⟩) (HT.out.turn (by first | exact (HTr.out.drewN _).setCell _ rfl _ | exact ((HTr.out.drewN _).setCell _ rfl _).drew) HG0.out)).mono ?_); rintro e w' ⟨v, rfl, ho, ha, ht⟩; obtain ⟨A2, c2, e2_⟩ := Kd.R_slice ho; subst e2_; have n0_ := Aside0.mk ha; have n1_ := Aside0.mk (Turn.trans (by first | exact (HTr.out.drewN _).setCell _ rfl _ | exact ((HTr.out.drewN _).setCell _ rfl _).drew) ht); have n2_ := Aside0.mk (Out.turn (by first | exact Out.put (Out.drawn HO.out ⟨_, rfl⟩) HG.out _ _ | exact Out.drawn (Out.put (Out.drawn HO.out ⟨_, rfl⟩) HG.out _ _) ⟨1, rfl⟩) ht HG.out); have HC2 := Aside0.mk (Kd.R_reads' ho).2.2; clear HA HTr HO ha ht ho; have HA := n0_; have HTr := n1_; have HO := n2_; clear n0_ n1_ n2_; obtain ⟨A1, c1, e1_⟩ := Kd.R_slice HO.out; subst e1_) | ((with_reducible refine gate_builtin (b := .append) (xs := #[.tmp 39, .tmp 41]) rfl ?_); at_builtin; (refine Kd.R_append_row (Value.int .i64) (0 : Int) (h1 := fun _ => rfl) (w0 := w') w.heap.size rfl (.tmp 39) (.tmp 41) 31 3 (.int .i64 0) 8 rfl Tryd.underlying31 info3 rfl (by decide) (.slice A1 out.length c1) out tr.2 A2 tr.2.length c2 (fun k => w.heap.size ≤ k) rfl rfl ?aF ?aO ?aR ?aB ?aS ?aL ?_); (case aF => exact fun k hk => Nat.le_trans HTr.out.size hk); (case aO => exact HO.out); (case aR => exact HC2.out); (case aB => exact Below.refl _ _); (case aS => exact HTr.out.size); (case aL => have := HK.out; have := HKe.out.2.2; omega); (intro v1 w1 ho hb hg hat); (have n0_ := Aside0.mk ho; have n1_ := Aside0.mk (HA.out.own hb HG.out); have n2_ := Aside0.mk (HTr.out.own hb); clear HO HA HTr; have HO := n0_; have HA := n1_; have HTr := n2_; clear n0_ n1_ n2_; clear ho hb hg hat)))
            go_roundg k1
            case measure => omega
            case rel => exact ⟨m - d - 1, _, _, by rw [e4], HH, ⟨by have := HK.out; have := HD.out; have := HKe.out; simp only [List.length_append]; omega⟩, ⟨HO.out⟩, HA, ⟨HKe.out.1⟩, HTr⟩
          · have b1 : decide (0 < d) = false := decide_eq_false hdp
            have e4 : wrap64 (m - 1) = m - 1 := w64 (by have := HK.out; have := HD.out; omega) (by have := HK.out; have := HD.out; omega)
            have ef : far s1 m = s1 := by unfold far; rw [HID.out, if_neg hdp]
            have en : farn s1 m = m := by unfold farn; rw [HID.out, if_neg hdp]
            have ht := HTR.out
            have hh := HHn.out
            rw [ef] at ht
            rw [en] at hh
            clear HTR HHn
            have HH := Aside0.mk hh
            have hlt : s1.now < 1000000000000 := by have := HK.out; have := HD.out; omega
            have HKe := Aside0.mk (tick_keeps ht HGd.out hlt)
            have HTk := Aside0.mk fun (w1 : World) (a : At w1 g s1) (t : Tabs w1) => tick_f w1 g s1 tr a HG0.out HGd.out hlt t ht
            clear hdp ef en ht hh hlt
            go_wp2_with (first | (go_at_call 21; refine (HSo.out _ HA.out).mono ?_; rintro e w' ⟨rfl, ⟨nd, rfl⟩⟩; have HND := Aside0.mk (Eq.refl nd)) | (go_at_call 11; (refine (HTk.out _ (HA.out.drawn ⟨_, rfl⟩) (HT.out.turn (HTr.out.drewN _) HG0.out)).mono ?_); rintro e w' ⟨v, rfl, ho, ha, ht⟩; obtain ⟨A2, c2, e2_⟩ := Kd.R_slice ho; subst e2_; have n0_ := Aside0.mk ha; have n1_ := Aside0.mk (Turn.trans (HTr.out.drewN _) ht); have n2_ := Aside0.mk (Out.turn (Out.drawn HO.out ⟨_, rfl⟩) ht HG.out); have HC2 := Aside0.mk (Kd.R_reads' ho).2.2; clear HA HTr HO ha ht ho; have HA := n0_; have HTr := n1_; have HO := n2_; clear n0_ n1_ n2_; obtain ⟨A1, c1, e1_⟩ := Kd.R_slice HO.out; subst e1_) | ((with_reducible refine gate_builtin (b := .append) (xs := #[.tmp 39, .tmp 41]) rfl ?_); at_builtin; (refine Kd.R_append_row (Value.int .i64) (0 : Int) (h1 := fun _ => rfl) (w0 := w') w.heap.size rfl (.tmp 39) (.tmp 41) 31 3 (.int .i64 0) 8 rfl Tryd.underlying31 info3 rfl (by decide) (.slice A1 out.length c1) out tr.2 A2 tr.2.length c2 (fun k => w.heap.size ≤ k) rfl rfl ?aF ?aO ?aR ?aB ?aS ?aL ?_); (case aF => exact fun k hk => Nat.le_trans HTr.out.size hk); (case aO => exact HO.out); (case aR => exact HC2.out); (case aB => exact Below.refl _ _); (case aS => exact HTr.out.size); (case aL => have := HK.out; have := HKe.out.2.2; omega); (intro v1 w1 ho hb hg hat); (have n0_ := Aside0.mk ho; have n1_ := Aside0.mk (HA.out.own hb HG.out); have n2_ := Aside0.mk (HTr.out.own hb); clear HO HA HTr; have HO := n0_; have HA := n1_; have HTr := n2_; clear n0_ n1_ n2_; clear ho hb hg hat)))
            go_roundg k1
            case measure => omega
            case rel => exact ⟨m - 1, _, _, by rw [e4], HH, ⟨by have := HK.out; have := HD.out; have := HKe.out; simp only [List.length_append]; omega⟩, ⟨HO.out⟩, HA, ⟨HKe.out.1⟩, HTr⟩
        · rw [if_neg hb] at hh
          obtain rfl := Option.some.inj hh
          have hb' : (soon s1).2 = false := by simpa using hb
          rw [hb'] at HSo
          clear hh hb hb' h0
          go_wp2_with (first | (go_at_call 21; refine (HSo.out _ HA.out).mono ?_; rintro e w' ⟨rfl, ⟨nd, rfl⟩⟩))
          go_ret
          exact ⟨_, rfl, Out.drawn HO.out ⟨_, rfl⟩, HA.out.drawn ⟨_, rfl⟩, HTr.out.drewN _⟩
end Go.Proofs.YtbpjcgahdgpmhaaDoor.Whl
