/- The wheel of timers in memory: its cells; the walks through its methods, each shown to do what a plain function of its state says. Conditions: those that each statement names. -/
import Derived.Test.YtbpjcgahdgpmhaaDoorOwnx0
import Derived.WalkSmall
namespace Go.Proofs.YtbpjcgahdgpmhaaDoor.Whl
open Go.RowKit Go.Proofs.YtbpjcgahdgpmhaaDoorW.PrintWords Go.Proofs.YtbpjcgahdgpmhaaDoorW.PrintLast Go.Proofs.YtbpjcgahdgpmhaaDoorW.PrintMore
set_option linter.unusedVariables false

/-- But for block g the world w' is as w was; more blocks may lie behind. -/
structure Turn (g : Nat) (w w' : World) : Prop where
  os : w'.os = w.os
  tape : w'.tape = w.tape
  output : w'.output = w.output
  size : w.heap.size ≤ w'.heap.size
  block : ∀ k, k < w.heap.size → k ≠ g → w'.heap[k]? = w.heap[k]?
theorem Turn.refl (g : Nat) (w : World) : Turn g w w := ⟨rfl, rfl, rfl, Nat.le_refl _, fun _ _ _ => rfl⟩
theorem Turn.trans {g : Nat} {a b c : World} (h : Turn g a b) (k : Turn g b c) : Turn g a c :=
  ⟨k.os.trans h.os, k.tape.trans h.tape, k.output.trans h.output, Nat.le_trans h.size k.size, fun i hi hg => (k.block i (Nat.lt_of_lt_of_le hi h.size) hg).trans (h.block i hi hg)⟩
theorem Turn.drew {g : Nat} {a w : World} (h : Turn g a w) : Turn g a w.drew := ⟨h.os, h.tape, h.output, h.size, h.block⟩
theorem Turn.drewN {g : Nat} {a w : World} (h : Turn g a w) (n : Nat) : Turn g a (w.drewN n) := ⟨h.os, h.tape, h.output, h.size, h.block⟩
theorem Turn.setCell {g : Nat} {a w : World} (h : Turn g a w) (p : Addr) (hp : p.block = g) (u : Value) : Turn g a (w.setCell p u) :=
  h.trans ⟨rfl, rfl, rfl, by simp [World.setCell], fun k hk hg => Below.heap_setCell _ _ _ _ (by rw [hp]; exact hg)⟩
theorem Turn.below {g B : Nat} {w w' : World} (h : Turn g w w') (hB : B ≤ g) (hB' : B ≤ w.heap.size) : Below B w w' :=
  ⟨h.os, h.tape, h.output, h.size, fun k hk => h.block k (by omega) (by omega)⟩
theorem Turn.of_below {g : Nat} {w w' : World} (h : Below w.heap.size w w') : Turn g w w' := ⟨h.os, h.tape, h.output, h.size, fun k hk _ => h.block k hk⟩

structure Wh where
  now : Int
  due : Nat → Int
  set : Nat
  spoke : Nat → Nat
structure At (w : World) (g : Nat) (s : Wh) : Prop where
  now : w.cell? ⟨g, 0, none⟩ = some (.int .i64 s.now)
  due : ∀ j, j < 16 → w.cell? ⟨g, 1 + j, none⟩ = some (.int .i64 (s.due j))
  set : w.cell? ⟨g, 17, none⟩ = some (.int .u16 s.set)
  spoke : ∀ j, j < 32 → w.cell? ⟨g, 18 + j, none⟩ = some (.int .u16 (s.spoke j))
  live : ∀ j, j < 50 → w.frozen? ⟨g, j, none⟩ = false
theorem At.in {w : World} {g : Nat} {s : Wh} (h : At w g s) : g < w.heap.size := World.block_lt_of_cell? w _ h.now
theorem At.kept {w w' : World} {g g' : Nat} {s : Wh} (h : At w g s) (t : Turn g' w w') (hg : g ≠ g') : At w' g s := by
  have e := t.block g h.in hg
  have c : ∀ j, w'.cell? ⟨g, j, none⟩ = w.cell? ⟨g, j, none⟩ := fun j => World.cell?_of_block (w := w) e
  have f : ∀ j, w'.frozen? ⟨g, j, none⟩ = w.frozen? ⟨g, j, none⟩ := fun j => World.frozen?_of_block (w := w) e
  exact ⟨(c _).trans h.now, fun j hj => (c _).trans (h.due j hj), (c _).trans h.set, fun j hj => (c _).trans (h.spoke j hj), fun j hj => (f _).trans (h.live j hj)⟩
theorem At.drawn {w w' : World} {g : Nat} {s : Wh} (h : At w g s) (d : Drawn0 w w') : At w' g s := by
  obtain ⟨n, rfl⟩ := d
  exact ⟨h.now, h.due, h.set, h.spoke, h.live⟩
def up {α : Type} (f : Nat → α) (k : Nat) (v : α) : Nat → α := fun j => if j = k then v else f j
theorem same_ {w : World} {a : Addr} {u v : Value} (h : w.cell? a = some u) : (w.setCell a v).cell? a = some v := World.cell?_setCell_same' w a v (by rw [h]; rfl)
theorem othr_ {w : World} {g j k : Nat} {v : Value} (h : j ≠ k) : (w.setCell ⟨g, k, none⟩ v).cell? ⟨g, j, none⟩ = w.cell? ⟨g, j, none⟩ := World.cell?_setCell_other _ _ _ _ (fun e => h (congrArg Addr.off e).symm)
theorem At.put_now {w : World} {g : Nat} {s : Wh} (h : At w g s) (x : Int) : At (w.setCell ⟨g, 0, none⟩ (.int .i64 x)) g { s with now := x } :=
  ⟨same_ h.now, fun j hj => (othr_ (by omega)).trans (h.due j hj), (othr_ (by omega)).trans h.set, fun j hj => (othr_ (by omega)).trans (h.spoke j hj), fun j hj => by rw [World.frozen?_setCell]; exact h.live j hj⟩
theorem At.put_set {w : World} {g : Nat} {s : Wh} (h : At w g s) (x : Nat) : At (w.setCell ⟨g, 17, none⟩ (.int .u16 x)) g { s with set := x } :=
  ⟨(othr_ (by omega)).trans h.now, fun j hj => (othr_ (by omega)).trans (h.due j hj), same_ h.set, fun j hj => (othr_ (by omega)).trans (h.spoke j hj), fun j hj => by rw [World.frozen?_setCell]; exact h.live j hj⟩
theorem At.put_due {w : World} {g : Nat} {s : Wh} (h : At w g s) (k : Nat) (hk : k < 16) (x : Int) : At (w.setCell ⟨g, 1 + k, none⟩ (.int .i64 x)) g { s with due := up s.due k x } :=
  ⟨(othr_ (by omega)).trans h.now, fun j hj => by
    unfold up
    by_cases e : j = k
    · subst e; simp only [if_pos]; exact same_ (h.due j hj)
    · simp only [if_neg e]; exact (othr_ (by omega)).trans (h.due j hj), (othr_ (by omega)).trans h.set, fun j hj => (othr_ (by omega)).trans (h.spoke j hj), fun j hj => by rw [World.frozen?_setCell]; exact h.live j hj⟩
theorem At.put_spoke {w : World} {g : Nat} {s : Wh} (h : At w g s) (k : Nat) (hk : k < 32) (x : Nat) : At (w.setCell ⟨g, 18 + k, none⟩ (.int .u16 x)) g { s with spoke := up s.spoke k x } :=
  ⟨(othr_ (by omega)).trans h.now, fun j hj => (othr_ (by omega)).trans (h.due j hj), (othr_ (by omega)).trans h.set, fun j hj => by
    unfold up
    by_cases e : j = k
    · subst e; simp only [if_pos]; exact same_ (h.spoke j hj)
    · simp only [if_neg e]; exact (othr_ (by omega)).trans (h.spoke j hj), fun j hj => by rw [World.frozen?_setCell]; exact h.live j hj⟩

/-! ### is -/
theorem u16_bits (a b : Nat) (ha : a < 2 ^ 16) (hb : b < 2 ^ 16) : Go.bits .and .u16 (a : Int) (b : Int) = ((a &&& b : Nat) : Int) ∧ Go.bits .or .u16 (a : Int) (b : Int) = ((a ||| b : Nat) : Int) :=
  bits_nat .u16 16 (by decide) (fun n h0 h1 => by rw [IntKind.wrap_u16]; omega) a b ha hb
theorem bit_f (x n : Nat) (hx : x < 65536) : (Go.bits .and .u16 ((x : Int) / 2 ^ n) 1 == 1) = x.testBit n := by
  have e : (x : Int) / 2 ^ n = ((x / 2 ^ n : Nat) : Int) := by simp
  have hl : x / 2 ^ n < 2 ^ 16 := Nat.lt_of_le_of_lt (Nat.div_le_self _ _) hx
  rw [e, show (1 : Int) = ((1 : Nat) : Int) from rfl, (u16_bits _ _ hl (by decide)).1, Nat.and_one_is_mod, Nat.testBit_eq_decide_div_mod_eq]
  rcases Nat.mod_two_eq_zero_or_one (x / 2 ^ n) with h | h <;> rw [h] <;> rfl
theorem ret_bool {a b : Bool} (h : a = b) : Ending.returned (.bool a) = .returned (.bool b) := by rw [h]
theorem ret_int {k : IntKind} {a b : Int} (h : a = b) : Ending.returned (.int k a) = .returned (.int k b) := by rw [h]
def has (s : Wh) (id : Int) : Bool := decide (0 ≤ id ∧ id < 16) && s.set.testBit id.toNat
theorem is_in (w : World) (g n : Nat) (s : Wh) (h : At w g s) (hs : s.set < 65536) (hn : n < 16) :
    Calls Tryd.prog 19 #[.pointer (some ⟨g, 0, none⟩), .int .i64 (n : Int)] w fun e w' => e = .returned (.bool (s.set.testBit n)) ∧ Drawn0 w w' := by
  have h1 := h.set
  have d1 : decide (0 ≤ (n : Int)) = true := decide_eq_true (by omega)
  have d2 : decide ((n : Int) < 16) = true := decide_eq_true (by omega)
  have E := Aside0.mk (bit_f s.set n hs)
  clear h hs
  go_enter Tryd.func19, Tryd.ntmps19
  go_wp2
  go_ret
  exact ⟨ret_bool E.out, Drawn0.refl _⟩
theorem is_out (w : World) (g : Nat) (id : Int) (hn : ¬ (0 ≤ id ∧ id < 16)) :
    Calls Tryd.prog 19 #[.pointer (some ⟨g, 0, none⟩), .int .i64 id] w fun e w' => e = .returned (.bool false) ∧ Drawn0 w w' := by
  by_cases h0 : 0 ≤ id
  · have d1 : decide (0 ≤ id) = true := decide_eq_true h0
    have d2 : decide (id < 16) = false := decide_eq_false (by omega)
    clear hn h0
    go_enter Tryd.func19, Tryd.ntmps19
    go_wp2
    go_ret
    exact ⟨rfl, Drawn0.refl _⟩
  · have d1 : decide (0 ≤ id) = false := decide_eq_false h0
    clear hn h0
    go_enter Tryd.func19, Tryd.ntmps19
    go_wp2
    go_ret
    exact ⟨rfl, Drawn0.refl _⟩
theorem is_f (w : World) (g : Nat) (id : Int) (s : Wh) (h : At w g s) (hs : s.set < 65536) :
    Calls Tryd.prog 19 #[.pointer (some ⟨g, 0, none⟩), .int .i64 id] w fun e w' => e = .returned (.bool (has s id)) ∧ Drawn0 w w' := by
  unfold has
  by_cases hn : 0 ≤ id ∧ id < 16
  · rw [decide_eq_true hn, Bool.true_and]
    obtain ⟨n, rfl⟩ := Int.eq_ofNat_of_zero_le hn.1
    exact is_in w g n s h hs (by omega)
  · rw [decide_eq_false hn, Bool.false_and]
    exact is_out w g id hn

/-! ### Left -/
def left (s : Wh) (id : Int) : Int := if has s id = true then wrap64 (s.due id.toNat - s.now) else 0
theorem left_f (w : World) (g : Nat) (id : Int) (s : Wh) (h : At w g s) (hs : s.set < 65536) :
    Calls Tryd.prog 10 #[.pointer (some ⟨g, 0, none⟩), .int .i64 id] w fun e w' => e = .returned (.int .i64 (left s id)) ∧ Drawn0 w w' := by
  have HI := Aside0.mk (is_f w g id s h hs)
  unfold left
  by_cases hh : has s id = true
  · rw [if_pos hh]
    rw [hh] at HI
    have hn : 0 ≤ id ∧ id < 16 := by
      unfold has at hh
      rw [Bool.and_eq_true, decide_eq_true_eq] at hh
      exact hh.1
    obtain ⟨n, rfl⟩ := Int.eq_ofNat_of_zero_le hn.1
    rw [Int.toNat_natCast]
    have hd := h.due n (by omega)
    have hw := h.now
    have d1 : 0 ≤ (n : Int) := by omega
    have d2 : (n : Int) < 16 := by omega
    clear h hs hh hn
    go_enter Tryd.func10, Tryd.ntmps10
    go_wp2_with (go_at_call 19; refine HI.out.mono ?_; rintro e w' ⟨rfl, ⟨nd, rfl⟩⟩)
    go_region
    all_goals go_wp2
    all_goals go_ret
    all_goals exact ⟨rfl, by repeat (first | exact Drawn0.refl _ | exact ⟨_, rfl⟩ | apply Drawn0.step)⟩
  · rw [if_neg hh]
    have hh' : has s id = false := by simpa using hh
    rw [hh'] at HI
    clear h hs hh hh'
    go_enter Tryd.func10, Tryd.ntmps10
    go_wp2_with (go_at_call 19; refine HI.out.mono ?_; rintro e w' ⟨rfl, ⟨nd, rfl⟩⟩)
    go_ret
    exact ⟨rfl, ⟨_, rfl⟩⟩

/-! ### Cancel -/
def bitn (n : Nat) : Nat := 2 ^ n
def ann (a b : Nat) : Nat := (BitVec.ofNat 16 a &&& ~~~ BitVec.ofNat 16 b).toNat
theorem ann_lt (a b : Nat) : ann a b < 65536 := BitVec.isLt _
theorem ann_f (a b : Nat) : Go.bits .andNot .u16 (a : Int) (b : Int) = (ann a b : Int) := by
  show IntKind.u16.wrap ((BitVec.ofInt 16 (a : Int) &&& ~~~ BitVec.ofInt 16 (b : Int)).toNat : Int) = _
  rw [BitVec.ofInt_natCast, BitVec.ofInt_natCast, IntKind.wrap_u16]
  have := ann_lt a b
  unfold ann at *
  omega
theorem wrap_bit (n : Nat) (h : n < 16) : IntKind.u16.wrap (2 ^ n) = ((2 ^ n : Nat) : Int) := by
  have h1 : 2 ^ n < 2 ^ 16 := Nat.pow_lt_pow_right (by decide) h
  have h3 : (2 : Int) ^ n = ((2 ^ n : Nat) : Int) := by simp
  rw [IntKind.wrap_u16, h3]
  generalize 2 ^ n = p at *
  omega
def off (s : Wh) (n : Nat) : Wh := { s with set := ann s.set (2 ^ n), spoke := up s.spoke (s.due n % 32).toNat (ann (s.spoke (s.due n % 32).toNat) (2 ^ n)) }
theorem cancel_in (w : World) (g n : Nat) (s : Wh) (h : At w g s) (hs : s.set < 65536) (hn : n < 16) (hb : s.set.testBit n = true) (h0 : 0 ≤ s.due n) :
    Calls Tryd.prog 9 #[.pointer (some ⟨g, 0, none⟩), .int .i64 (n : Int)] w fun e w' => e = .returned (.bool true) ∧ At w' g (off s n) ∧ Turn g w w' := by
  have HI := Aside0.mk (is_in w g n s h hs hn)
  rw [hb] at HI
  obtain ⟨q, hq⟩ : ∃ q : Nat, (s.due n % 32).toNat = q ∧ Int.tmod (s.due n) 32 = (q : Int) := ⟨_, rfl, by rw [Int.tmod_eq_emod_of_nonneg h0]; omega⟩
  have hq32 : q < 32 := by omega
  have hd := h.due n hn
  have hset := h.set
  have hsp := h.spoke q hq32
  have f1 := h.live 17 (by omega)
  have f2 := h.live (18 + q) (by omega)
  have f3 := h.live (1 + n) (by omega)
  have d1 : 0 ≤ (n : Int) := by omega
  have d2 : (n : Int) < 16 := by omega
  have e1 := hq.2
  have d3 : (q : Int) < 32 := by omega
  have HA := Aside0.mk h
  have HQ := Aside0.mk hq.1
  have HN := Aside0.mk hn
  have HQ32 := Aside0.mk hq32
  clear h hs hb h0 hq hn hq32
  go_enter Tryd.func9, Tryd.ntmps9
  go_wp2_with (go_at_call 19; refine HI.out.mono ?_; rintro e w' ⟨rfl, ⟨nd, rfl⟩⟩)
  go_region
  all_goals go_wp2
  all_goals go_region
  all_goals go_wp2
  all_goals go_ret
  all_goals exact ⟨rfl, by
    rw [wrap_bit n HN.out, ann_f, ann_f]
    unfold off
    rw [HQ.out]
    exact (((HA.out.drawn ⟨nd + 1, rfl⟩).put_set (ann s.set (2 ^ n))).put_spoke q HQ32.out (ann (s.spoke q) (2 ^ n))).drawn ⟨1, rfl⟩, ((((Turn.refl g w).drewN _).setCell _ rfl _).setCell _ rfl _).drew⟩
theorem cancel_no (w : World) (g : Nat) (id : Int) (s : Wh) (h : At w g s) (hs : s.set < 65536) (hb : has s id = false) :
    Calls Tryd.prog 9 #[.pointer (some ⟨g, 0, none⟩), .int .i64 id] w fun e w' => e = .returned (.bool false) ∧ Drawn0 w w' := by
  have HI := Aside0.mk (is_f w g id s h hs)
  rw [hb] at HI
  clear h hs hb
  go_enter Tryd.func9, Tryd.ntmps9
  go_wp2_with (go_at_call 19; refine HI.out.mono ?_; rintro e w' ⟨rfl, ⟨nd, rfl⟩⟩)
  go_ret
  exact ⟨rfl, ⟨_, rfl⟩⟩
def canc (s : Wh) (id : Int) : Wh := if has s id = true then off s id.toNat else s
theorem has_rng {s : Wh} {id : Int} (h : has s id = true) : ∃ n : Nat, id = n ∧ n < 16 ∧ s.set.testBit n = true := by
  unfold has at h
  rw [Bool.and_eq_true, decide_eq_true_eq] at h
  exact ⟨id.toNat, by omega, by omega, h.2⟩
theorem cancel_f (w : World) (g : Nat) (id : Int) (s : Wh) (h : At w g s) (hs : s.set < 65536) (h0 : ∀ j, j < 16 → s.set.testBit j = true → 0 ≤ s.due j) :
    Calls Tryd.prog 9 #[.pointer (some ⟨g, 0, none⟩), .int .i64 id] w fun e w' => e = .returned (.bool (has s id)) ∧ At w' g (canc s id) ∧ Turn g w w' := by
  unfold canc
  cases hh : has s id with
  | true =>
    obtain ⟨n, rfl, hn, hb⟩ := has_rng hh
    rw [if_pos rfl, Int.toNat_natCast]
    exact cancel_in w g n s h hs hn hb (h0 n hn hb)
  | false =>
    rw [if_neg (by decide)]
    exact (cancel_no w g id s h hs hh).mono fun e w' ⟨h1, nd, h2⟩ => ⟨h1, h.drawn ⟨nd, h2⟩, by rw [h2]; exact (Turn.refl g w).drewN nd⟩

theorem canc_now (s : Wh) (id : Int) : (canc s id).now = s.now := by unfold canc; split <;> rfl
/-! ### Set -/
def put (s : Wh) (n : Nat) (t : Int) : Wh := { s with due := up s.due n t, set := s.set ||| 2 ^ n, spoke := up s.spoke (t % 32).toNat (s.spoke (t % 32).toNat ||| 2 ^ n) }
theorem or_lt (a n : Nat) (h : a < 65536) (hn : n < 16) : a ||| 2 ^ n < 65536 := Nat.or_lt_two_pow (n := 16) h (Nat.pow_lt_pow_right (by decide) hn)
theorem set_in (w : World) (g n : Nat) (t : Int) (s : Wh) (h : At w g s) (hs : s.set < 65536) (h0 : ∀ j, j < 16 → s.set.testBit j = true → 0 ≤ s.due j) (hn : n < 16) (ht : 1 ≤ t) (ht' : t ≤ 10000)
    (hnow : 0 ≤ s.now) (hnow' : s.now ≤ 1000000000000) (hc : (canc s n).set < 65536 ∧ ∀ j, j < 32 → (canc s n).spoke j < 65536) :
    Calls Tryd.prog 8 #[.pointer (some ⟨g, 0, none⟩), .int .i64 (n : Int), .int .i64 t] w fun e w' => e = .returned (.bool true) ∧ At w' g (put (canc s n) n (s.now + t)) ∧ Turn g w w' := by
  have HI := Aside0.mk (cancel_f w g n s h hs h0)
  have cn : (canc s n).now = s.now := canc_now s n
  generalize canc s n = c at *
  rw [← cn] at hnow hnow' ⊢
  obtain ⟨T, hT⟩ : ∃ T : Nat, c.now + t = T := ⟨(c.now + t).toNat, by omega⟩
  have HTs := Aside0.mk hT
  have e0 : wrap64 (c.now + t) = (T : Int) := by rw [hT]; unfold wrap64; omega
  have e1 : Int.tmod (T : Int) 32 = ((T % 32 : Nat) : Int) := by rw [Int.tmod_eq_emod_of_nonneg (by omega)]; omega
  have HQ := Aside0.mk (show ((T : Int) % 32).toNat = T % 32 by omega)
  have HQ32 := Aside0.mk (show T % 32 < 32 by omega)
  generalize T % 32 = q at *
  have d1 : decide ((n : Int) < 0) = false := decide_eq_false (by omega)
  have d2 : decide (16 ≤ (n : Int)) = false := decide_eq_false (by omega)
  have d3 : decide (t < 1) = false := decide_eq_false (by omega)
  have d4 : decide (10000 < t) = false := decide_eq_false (by omega)
  have d5 : 0 ≤ (n : Int) := by omega
  have d6 : (n : Int) < 16 := by omega
  have d7 : (q : Int) < 32 := by have := HQ32.out; omega
  have HN := Aside0.mk hn
  have HC := Aside0.mk hc
  clear hn ht ht' hnow hnow' h hs h0 hT cn hc
  go_enter Tryd.func8, Tryd.ntmps8
  go_wp2_with (go_at_call 9; refine HI.out.mono ?_; rintro e w' ⟨rfl, ha, hT⟩; have hw1 := ha.now; have hw2 := ha.due n HN.out; have hw3 := ha.set; have hw4 := ha.spoke q HQ32.out; have hf1 := ha.live (1 + n) (by have := HN.out; omega); have hf2 := ha.live 17 (by omega); have hf3 := ha.live (18 + q) (by have := HQ32.out; omega); have HA := Aside0.mk ha; have HT := Aside0.mk hT; clear ha hT)
  all_goals go_region
  all_goals go_wp2
  all_goals go_region
  all_goals go_wp2
  all_goals go_region
  all_goals go_wp2
  all_goals go_ret
  all_goals exact ⟨rfl, by
    have hp : 2 ^ n < 2 ^ 16 := Nat.pow_lt_pow_right (by decide) HN.out
    rw [wrap_bit n HN.out, (u16_bits _ _ HC.out.1 hp).2, (u16_bits _ _ (HC.out.2 q HQ32.out) hp).2, HTs.out]
    unfold put
    rw [HQ.out]
    exact (((HA.out.put_due n HN.out T).put_set (c.set ||| 2 ^ n)).put_spoke q HQ32.out (c.spoke q ||| 2 ^ n)).drawn ⟨3, rfl⟩, HT.out.trans ((((((Turn.refl g w').setCell _ rfl _).setCell _ rfl _).setCell _ rfl _).drew).drew).drew⟩
def fits (id t : Int) : Bool := decide (0 ≤ id ∧ id < 16 ∧ 1 ≤ t ∧ t ≤ 10000)
theorem set_no (w : World) (g : Nat) (id t : Int) (hn : fits id t = false) :
    Calls Tryd.prog 8 #[.pointer (some ⟨g, 0, none⟩), .int .i64 id, .int .i64 t] w fun e w' => e = .returned (.bool false) ∧ Drawn0 w w' := by
  unfold fits at hn
  have hn := of_decide_eq_false hn
  by_cases c1 : id < 0
  · have d1 := decide_eq_true c1
    clear hn c1
    go_enter Tryd.func8, Tryd.ntmps8
    go_wp2
    go_ret
    exact ⟨rfl, Drawn0.refl _⟩
  · by_cases c2 : 16 ≤ id
    · have d1 := decide_eq_false c1
      have d2 := decide_eq_true c2
      clear hn c1 c2
      go_enter Tryd.func8, Tryd.ntmps8
      go_wp2
      go_ret
      exact ⟨rfl, Drawn0.refl _⟩
    · by_cases c3 : t < 1
      · have d1 := decide_eq_false c1
        have d2 := decide_eq_false c2
        have d3 := decide_eq_true c3
        clear hn c1 c2 c3
        go_enter Tryd.func8, Tryd.ntmps8
        go_wp2
        go_ret
        exact ⟨rfl, Drawn0.refl _⟩
      · have d1 := decide_eq_false c1
        have d2 := decide_eq_false c2
        have d3 := decide_eq_false c3
        have d4 : decide (10000 < t) = true := decide_eq_true (by omega)
        clear hn c1 c2 c3
        go_enter Tryd.func8, Tryd.ntmps8
        go_wp2
        go_ret
        exact ⟨rfl, Drawn0.refl _⟩

/-! ### the document's wheel -/
structure Ref (w : World) (g : Nat) (x : Nat → Int) : Prop where
  cell : ∀ j, j < 16 → w.cell? ⟨g, j, none⟩ = some (.int .i64 (x j))
  live : ∀ j, j < 16 → w.frozen? ⟨g, j, none⟩ = false
theorem Ref.in {w : World} {g : Nat} {x : Nat → Int} (h : Ref w g x) : g < w.heap.size := World.block_lt_of_cell? w _ (h.cell 0 (by decide))
theorem Ref.kept {w w' : World} {g g' : Nat} {x : Nat → Int} (h : Ref w g x) (t : Turn g' w w') (hg : g ≠ g') : Ref w' g x := by
  have e := t.block g h.in hg
  have c : ∀ j, w'.cell? ⟨g, j, none⟩ = w.cell? ⟨g, j, none⟩ := fun j => World.cell?_of_block (w := w) e
  have f : ∀ j, w'.frozen? ⟨g, j, none⟩ = w.frozen? ⟨g, j, none⟩ := fun j => World.frozen?_of_block (w := w) e
  exact ⟨fun j hj => (c _).trans (h.cell j hj), fun j hj => (f _).trans (h.live j hj)⟩
theorem Ref.drawn {w w' : World} {g : Nat} {x : Nat → Int} (h : Ref w g x) (d : Drawn0 w w') : Ref w' g x := by
  obtain ⟨n, rfl⟩ := d
  exact ⟨h.cell, h.live⟩
theorem Ref.put {w : World} {g : Nat} {x : Nat → Int} (h : Ref w g x) (k : Nat) (hk : k < 16) (v : Int) : Ref (w.setCell ⟨g, k, none⟩ (.int .i64 v)) g (up x k v) :=
  ⟨fun j hj => by
    unfold up
    by_cases e : j = k
    · subst e; simp only [if_pos]; exact same_ (h.cell j hj)
    · simp only [if_neg e]; exact (othr_ (by omega)).trans (h.cell j hj), fun j hj => by rw [World.frozen?_setCell]; exact h.live j hj⟩
theorem rset_in (w : World) (g n : Nat) (t : Int) (x : Nat → Int) (h : Ref w g x) (hn : n < 16) (ht : 1 ≤ t) (ht' : t ≤ 10000) :
    Calls Tryd.prog 12 #[.pointer (some ⟨g, 0, none⟩), .int .i64 (n : Int), .int .i64 t] w fun e w' => e = .returned (.bool true) ∧ Ref w' g (up x n t) ∧ Turn g w w' := by
  have d1 : decide ((n : Int) < 0) = false := decide_eq_false (by omega)
  have d2 : decide (15 < (n : Int)) = false := decide_eq_false (by omega)
  have d3 : decide (t < 1) = false := decide_eq_false (by omega)
  have d4 : decide (10000 < t) = false := decide_eq_false (by omega)
  have d5 : 0 ≤ (n : Int) := by omega
  have d6 : (n : Int) < 16 := by omega
  have h1 := h.cell n hn
  have h2 := h.live n hn
  have HN := Aside0.mk hn
  have HA := Aside0.mk h
  clear hn ht ht' h
  go_enter Tryd.func12, Tryd.ntmps12
  go_wp2
  go_ret
  exact ⟨rfl, HA.out.put n HN.out t, (Turn.refl g w).setCell _ rfl _⟩
theorem rset_no (w : World) (g : Nat) (id t : Int) (hn : fits id t = false) :
    Calls Tryd.prog 12 #[.pointer (some ⟨g, 0, none⟩), .int .i64 id, .int .i64 t] w fun e w' => e = .returned (.bool false) ∧ Drawn0 w w' := by
  unfold fits at hn
  have hn := of_decide_eq_false hn
  by_cases c1 : id < 0
  · have d1 := decide_eq_true c1
    clear hn c1
    go_enter Tryd.func12, Tryd.ntmps12
    go_wp2
    go_ret
    exact ⟨rfl, Drawn0.refl _⟩
  · by_cases c2 : 15 < id
    · have d1 := decide_eq_false c1
      have d2 := decide_eq_true c2
      clear hn c1 c2
      go_enter Tryd.func12, Tryd.ntmps12
      go_wp2
      go_ret
      exact ⟨rfl, Drawn0.refl _⟩
    · by_cases c3 : t < 1
      · have d1 := decide_eq_false c1
        have d2 := decide_eq_false c2
        have d3 := decide_eq_true c3
        clear hn c1 c2 c3
        go_enter Tryd.func12, Tryd.ntmps12
        go_wp2
        go_ret
        exact ⟨rfl, Drawn0.refl _⟩
      · have d1 := decide_eq_false c1
        have d2 := decide_eq_false c2
        have d3 := decide_eq_false c3
        have d4 : decide (10000 < t) = true := decide_eq_true (by omega)
        clear hn c1 c2 c3
        go_enter Tryd.func12, Tryd.ntmps12
        go_wp2
        go_ret
        exact ⟨rfl, Drawn0.refl _⟩
def rleft (x : Nat → Int) (id : Int) : Int := if 0 ≤ id ∧ id < 16 then x id.toNat else 0
theorem rleft_f (w : World) (g : Nat) (id : Int) (x : Nat → Int) (h : Ref w g x) :
    Calls Tryd.prog 13 #[.pointer (some ⟨g, 0, none⟩), .int .i64 id] w fun e w' => e = .returned (.int .i64 (rleft x id)) ∧ Drawn0 w w' := by
  unfold rleft
  by_cases c1 : id < 0
  · rw [if_neg (by omega)]
    have d1 := decide_eq_true c1
    clear c1
    go_enter Tryd.func13, Tryd.ntmps13
    go_wp2
    go_ret
    exact ⟨rfl, Drawn0.refl _⟩
  · by_cases c2 : 15 < id
    · rw [if_neg (by omega)]
      have d1 := decide_eq_false c1
      have d2 := decide_eq_true c2
      clear c1 c2
      go_enter Tryd.func13, Tryd.ntmps13
      go_wp2
      go_ret
      exact ⟨rfl, Drawn0.refl _⟩
    · rw [if_pos (by omega)]
      obtain ⟨n, rfl⟩ := Int.eq_ofNat_of_zero_le (show 0 ≤ id by omega)
      rw [Int.toNat_natCast]
      have h1 := h.cell n (by omega)
      have d1 := decide_eq_false c1
      have d2 := decide_eq_false c2
      have d3 : 0 ≤ (n : Int) := by omega
      have d4 : (n : Int) < 16 := by omega
      clear c1 c2 h
      go_enter Tryd.func13, Tryd.ntmps13
      go_wp2
      all_goals (try go_region)
      all_goals (try go_wp2)
      all_goals go_ret
      all_goals exact ⟨rfl, by first | exact Drawn0.refl _ | exact ⟨_, rfl⟩⟩
end Go.Proofs.YtbpjcgahdgpmhaaDoor.Whl
