/- The wheel ticks: the walk. Conditions: those that each statement names. -/
import Derived.Test.YtbpjcgahdgpmhaaDoorWheel3
namespace Go.Proofs.YtbpjcgahdgpmhaaDoor.Whl
open Go.RowKit Go.Proofs.YtbpjcgahdgpmhaaDoorW.PrintWords Go.Proofs.YtbpjcgahdgpmhaaDoorW.PrintLast Go.Proofs.YtbpjcgahdgpmhaaDoorW.PrintMore
set_option linter.unusedVariables false
theorem Out.turn {w w' : World} {B g : Nat} {v : Value} {xs : List Int} (h : Out w B v xs) (t : Turn g w w') (hg : g < B) : Out w' B v xs := Kd.R_step h (fun k hk hlt => t.block k hlt (by omega))
structure Good (s : Wh) : Prop where
  set : s.set < 65536
  due : ∀ j, j < 16 → 0 ≤ s.due j
  spoke : ∀ j, j < 32 → s.spoke j < 65536
  now0 : 0 ≤ s.now
  now1 : s.now ≤ 1000000000000
theorem off_good {s : Wh} (h : Good s) (n : Nat) : Good (off s n) :=
  ⟨ann_lt _ _, h.due, fun j hj => by
    show up s.spoke _ _ j < 65536
    unfold up
    split
    · exact ann_lt _ _
    · exact h.spoke j hj, h.now0, h.now1⟩
theorem canc_good {s : Wh} (h : Good s) (id : Int) : Good (canc s id) := by
  unfold canc
  split
  · exact off_good h _
  · exact h
def tl : Nat → Wh → Nat → List Int → Option (Wh × List Int)
  | 0, _, _, _ => none
  | k + 1, s, l, out => if l = 0 then some (s, out) else if s.due (Lib.ctz 16 l) = s.now then tl k (canc s (Lib.ctz 16 l : Nat)) (l &&& (l - 1)) (out ++ [(Lib.ctz 16 l : Int)]) else tl k s (l &&& (l - 1)) out
def rest (s : Wh) : Wh := if s.set = 0 then { s with now := 0 } else s
def tick (s : Wh) : Option (Wh × List Int) := (tl 20 { s with now := s.now + 1 } (s.spoke ((s.now + 1) % 32).toNat) []).map fun r => (rest r.1, r.2)
theorem tick_f (w : World) (g : Nat) (s : Wh) (r : Wh × List Int) (h : At w g s) (hg : 0 < g) (hs : Good s) (hn : s.now < 1000000000000) (ht : Tabs w) (hr : tick s = some r) :
    Calls Tryd.prog 11 #[.pointer (some ⟨g, 0, none⟩)] w fun e w' => ∃ v, e = .returned v ∧ Out w' w.heap.size v r.2 ∧ At w' g r.1 ∧ Turn g w w' := by
  have HG := Aside0.mk h.in
  have HG0 := Aside0.mk hg
  have HT := Aside0.mk ht
  obtain ⟨N, hN⟩ : ∃ N : Nat, s.now + 1 = N := ⟨(s.now + 1).toNat, by have := hs.now0; omega⟩
  have e0 : wrap64 (s.now + 1) = (N : Int) := by rw [hN]; exact w64 (by omega) (by have := hs.now1; omega)
  have e1 : Int.tmod (N : Int) 32 = ((N % 32 : Nat) : Int) := by rw [Int.tmod_eq_emod_of_nonneg (by omega)]; omega
  have hq : ((s.now + 1) % 32).toNat = N % 32 := by rw [hN]; omega
  obtain ⟨rr, hr1, hr2⟩ : ∃ rr, tl 20 { s with now := (N : Int) } (s.spoke (N % 32)) [] = some rr ∧ (rest rr.1, rr.2) = r := by
    unfold tick at hr
    rw [hq, hN] at hr
    exact Option.map_eq_some_iff.1 hr
  have HQ := Aside0.mk (show N % 32 < 32 by omega)
  have d7 : ((N % 32 : Nat) : Int) < 32 := by omega
  have d8 : 0 ≤ ((N % 32 : Nat) : Int) := by omega
  have hw1 := h.now
  have hw2 := h.spoke (N % 32) (by omega)
  have hf1 := h.live 0 (by omega)
  have HR1 := Aside0.mk hr1
  have HR2 := Aside0.mk hr2
  have HGd := Aside0.mk (show Good { s with now := (N : Int) } from ⟨hs.set, hs.due, hs.spoke, by show (0 : Int) ≤ N; omega, by show (N : Int) ≤ _; omega⟩)
  have HA := Aside0.mk (h.put_now (N : Int))
  have HL := Aside0.mk (hs.spoke (N % 32) (by omega))
  generalize N % 32 = q at *
  generalize s.spoke q = L0 at *
  clear h hg hs hn ht hr hN hq hr1 hr2
  go_enter Tryd.func11, Tryd.ntmps11
  go_wp2
  all_goals (try go_region)
  all_goals go_wp2
  clear e0 e1
  go_loopg [3, 4, 5] 20 (fun kq v3 v4 v5 w' => ∃ (l : Nat) (s1 : Wh) (out : List Int), v4 = .int .u16 (l : Int) ∧ Aside0 (tl kq s1 l out = some rr) ∧ Aside0 (l < 65536 ∧ out.length + kq ≤ 20) ∧ Aside0 (Out w' w.heap.size v3 out) ∧ Aside0 (At w' g s1) ∧ Aside0 (Good s1) ∧ Aside0 (Turn g w w'))
  case atStart => exact ⟨L0, _, [], rfl, HR1, ⟨⟨HL.out, by simp⟩⟩, ⟨Kd.R_nil _ _ _ _ _⟩, ⟨HA.out.drawn ⟨1, rfl⟩⟩, HGd, ⟨((Turn.refl g w).setCell _ rfl _).drew⟩⟩
  case round =>
    clear HR1 HGd HA HL
    obtain ⟨l, s1, out, rfl, HH, HK, HO, HA, HGd, HTr⟩ := hrel
    cases gk with
    | zero => exact absurd HH.out (by simp [tl])
    | succ k1 =>
      have hh := HH.out
      clear HH
      simp only [tl] at hh
      by_cases h0 : l = 0
      · rw [if_pos h0] at hh
        obtain rfl := Option.some.inj hh
        subst h0
        clear hh hw1 hf1 hw2
        have hset := HA.out.set
        have hf0 := HA.out.live 0 (by omega)
        have hnow := HA.out.now
        by_cases z : s1.set = 0
        · have Z := Aside0.mk z
          rw [z] at hset
          clear z
          go_wp2
          all_goals (try go_region)
          all_goals (try go_wp2)
          go_ret
          exact ⟨_, rfl, by rw [← HR2.out]; first | exact Out.put HO.out HG.out _ _ | exact Out.drawn (Out.put HO.out HG.out _ _) ⟨1, rfl⟩, by
            rw [← HR2.out]
            show At _ g (rest s1)
            unfold rest
            rw [if_pos Z.out]
            first | exact HA.out.put_now 0 | exact (HA.out.put_now 0).drawn ⟨1, rfl⟩, by first | exact HTr.out.setCell _ rfl _ | exact (HTr.out.setCell _ rfl _).drew⟩
        · have Z := Aside0.mk z
          have b3 : ((s1.set : Int) == 0) = false := by simp; omega
          clear z
          go_wp2
          go_ret
          exact ⟨_, rfl, by rw [← HR2.out]; exact HO.out, by
            rw [← HR2.out]
            show At _ g (rest s1)
            unfold rest
            rw [if_neg Z.out]
            exact HA.out, HTr.out⟩
      · rw [if_neg h0] at hh
        obtain ⟨c, hc⟩ : ∃ c, Lib.ctz 16 l = c := ⟨_, rfl⟩
        have hc16 : c < 16 := by rw [← hc]; exact (Lib.lowest_bit 16 l h0 HK.out.1).2
        have HTZ := Aside0.mk fun (w1 : World) (t : Tabs w1) => tz_f l w1 HK.out.1 h0 t
        rw [hc] at HTZ hh
        have b0 : ((l : Int) != 0) = true := by simp; omega
        have b1 : ((l : Int) == 0) = false := by simp; omega
        have d3 : 0 ≤ (c : Int) := by omega
        have d4 : (c : Int) < 16 := by omega
        have hd := HA.out.due c hc16
        have hw := HA.out.now
        have HC := Aside0.mk hc16
        have HLN := Aside0.mk (show l &&& (l - 1) < 65536 from Nat.lt_of_le_of_lt Nat.and_le_left HK.out.1)
        have dl : Go.bits .and .u16 (l : Int) (IntKind.u16.wrap ((l : Int) - 1)) = ((l &&& (l - 1) : Nat) : Int) := by
          have : IntKind.u16.wrap ((l : Int) - 1) = ((l - 1 : Nat) : Int) := by rw [IntKind.wrap_u16]; have := HK.out.1; omega
          rw [this, (u16_bits l (l - 1) HK.out.1 (by have := HK.out.1; omega)).1]
        clear hc hc16 h0
        by_cases cd : s1.due c = s1.now
        · rw [if_pos cd] at hh
          have HH := Aside0.mk hh
          have HCa := Aside0.mk fun (w1 : World) (a : At w1 g s1) => cancel_f w1 g c s1 a HGd.out.set (fun j hj _ => HGd.out.due j hj)
          have b2 : (s1.due c == s1.now) = true := beq_iff_eq.2 cd
          rw [cd] at hd
          clear cd hh b2
          obtain ⟨Ao, co, eo⟩ := Kd.R_slice HO.out
          subst eo
          go_wp2_with (first | (go_at_call 20; refine (HTZ.out _ (HT.out.turn HTr.out HG0.out)).mono ?_; rintro e w' ⟨rfl, ⟨nd, rfl⟩⟩))
          go_region
          all_goals go_wp2_with (first | (go_at_call 9; refine (HCa.out _ (by first | exact HA.out | exact HA.out.drawn ⟨_, rfl⟩)).mono ?_; rintro e w' ⟨rfl, ha, ht⟩; have n0_ := Aside0.mk ha; have n1_ := Aside0.mk (HTr.out.trans (by first | exact ht | exact Turn.trans ((Turn.refl g _).drewN _) ht)); have n2_ := Aside0.mk (Out.turn (by first | exact HO.out | exact Out.drawn HO.out ⟨_, rfl⟩) ht HG.out); clear HA HTr HO ha ht; have HA := n0_; have HTr := n1_; have HO := n2_; clear n0_ n1_ n2_) | ((with_reducible refine gate_builtin (b := .append) (xs := #[.tmp 47, .tmp 49]) rfl ?_); at_builtin; go_loud (refine Kd.R_append (Kd.int .i64) (w0 := w') w.heap.size rfl (.tmp 47) (.tmp 49) 31 3 (.int .i64 0) 8 rfl Tryd.underlying31 info3 rfl (by decide) (by omega) (.slice Ao out.length co) out (c : Int) [.int .i64 (c : Int)] (fun k => w.heap.size ≤ k) (fun _ => False) rfl rfl ?aP (fun _ hk => hk.elim) ?aF ?aO ?aB ?aS ?aL ?_); (case aP => exact rfl); (case aB => exact Below.refl _ _); (case aF => exact fun k hk => Nat.le_trans HTr.out.size hk); (case aO => exact HO.out); (case aS => exact HTr.out.size); (case aL => have := HK.out; omega); (intro v1 w1 ho hb hg hat); (have n0_ := Aside0.mk ho; have n1_ := Aside0.mk (HA.out.own hb HG.out); have n2_ := Aside0.mk (HTr.out.own hb); clear HO HA HTr; have HO := n0_; have HA := n1_; have HTr := n2_; clear n0_ n1_ n2_; clear ho hb hg hat)))
          go_roundg k1
          case measure => omega
          case rel => exact ⟨_, _, _, by first | rw [dl] | rfl, HH, ⟨by have := HK.out; have := HLN.out; simp only [List.length_append, List.length_cons, List.length_nil]; omega⟩, HO, HA, ⟨canc_good HGd.out _⟩, HTr⟩
        · rw [if_neg cd] at hh
          have HH := Aside0.mk hh
          have b2 : (s1.due c == s1.now) = false := beq_eq_false_iff_ne.2 cd
          clear cd hh
          go_wp2_with (first | (go_at_call 20; refine (HTZ.out _ (HT.out.turn HTr.out HG0.out)).mono ?_; rintro e w' ⟨rfl, ⟨nd, rfl⟩⟩))
          go_region
          all_goals go_wp2
          go_roundg k1
          case measure => omega
          case rel => exact ⟨_, _, _, by first | rw [dl] | rfl, HH, ⟨by have := HK.out; have := HLN.out; omega⟩, ⟨Out.drawn HO.out ⟨_, rfl⟩⟩, ⟨HA.out.drawn ⟨_, rfl⟩⟩, HGd, ⟨HTr.out.drewN _⟩⟩
end Go.Proofs.YtbpjcgahdgpmhaaDoor.Whl
