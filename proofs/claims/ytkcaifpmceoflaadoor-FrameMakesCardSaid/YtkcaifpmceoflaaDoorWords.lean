/- The walks of strings.Join and epoch.Text. Conditions: those that each statement names. -/
import Derived.Test.YtkcaifpmceoflaaDoorFrame1
import Derived.Test.YtkcaifpmceoflaaDoorFmt
import Derived.Lib.ItoaLen
namespace Go.Proofs.YtkcaifpmceoflaaDoor.Frm
open Go.RowKit Go.Proofs.YtkcaifpmceoflaaDoorW.PrintWords Go.Proofs.YtkcaifpmceoflaaDoorW.PrintLast Go.Proofs.YtkcaifpmceoflaaDoorW.PrintMore
set_option linter.unusedVariables false
set_option linter.unusedSimpArgs false
/-! ### join: function 34 (off the shelf) -/
def join.f (l0 : List ByteArray) (a1 : ByteArray) : Option ByteArray :=
  if l0.length ≤ 1000000 ∧ (Lib.join (l0.map (·.data.toList)) a1.data.toList).length ≤ 1000000 then some ⟨(Lib.join (l0.map (·.data.toList)) a1.data.toList).toArray⟩ else none
theorem join.calls (A0 : Option Addr) (c0 : Nat) (l0 : List ByteArray) (a1 : ByteArray) (r : ByteArray) (w : World) (hr0 : Kd.C Kd.string w A0 l0.length l0) (hc0 : l0.length ≤ c0) (h : join.f l0 a1 = some r) :
    Calls Tryd.prog 34 #[.slice A0 l0.length c0, .string a1] w fun e w' => e = .returned (.string r) ∧ Below w.heap.size w w' := by
  unfold join.f at h
  split at h
  rotate_left
  · cases h
  rename_i hc
  obtain rfl := Option.some.inj h
  by_cases h0 : l0.length = 0
  · have e : l0 = [] := List.eq_nil_of_length_eq_zero h0
    subst e
    exact (Tryd.strings_Join_none A0 c0 a1 w).mono fun e w' ⟨h1, h2⟩ => ⟨h1, by rw [h2]; exact Below.refl _ _⟩
  · obtain ⟨ad, rfl, hj⟩ := hr0.2.2 (by omega)
    have hcell : ∀ (j : Nat) x, l0[j]? = some x → w.cell? (ad.add j) = some (.string x) := fun j x hx => by
      obtain ⟨c, h1, h2, h3⟩ := hj j x hx
      have h4 : c = [Value.string x] := h2
      have := h3 0 (.string x) (by rw [h4]; rfl)
      simpa [Kd.string, Kd.scalar] using this
    have hspot : ad.spot = none := by
      have h1 := hcell 0 _ (List.getElem?_eq_getElem (by omega))
      rw [show ad.add 0 = ad from rfl] at h1
      unfold World.cell? at h1
      split at h1
      · split at h1
        · cases h1
        · rename_i h; simpa using h
      · cases h1
    obtain ⟨bk, o, sp⟩ := ad
    obtain rfl : sp = none := hspot
    have hcells : ∀ (j : Nat) x, l0[j]? = some x → w.cell? ⟨bk, o + j, none⟩ = some (.string x) := fun j x hx => by
      rw [← hcell j x hx]
      cases j with
      | zero => rfl
      | succ j => simp [Addr.add]
    have hbk : bk < w.heap.size := World.block_lt_of_cell? w _ (hcells 0 _ (List.getElem?_eq_getElem (by omega)))
    exact Tryd.strings_Join bk o c0 l0 a1 w hcells hbk (by omega) hc0 (by omega)

/-- A number's digits. -/
def dgs (n : Int) : ByteArray := ⟨(Lib.decDigits n.toNat).toArray⟩
theorem dgs_size (n : Int) (h : n ≤ 4294967296) : (dgs n).size ≤ 20 := by
  show (Lib.decDigits n.toNat).toArray.size ≤ 20
  rw [List.size_toArray, Lib.decDigits_length]
  exact Lib.nDigits_le20 _ (by omega)
theorem itoa_g (n : Int) (h0 : 0 ≤ n) (hn : n ≤ 4294967296) (w : World) (ht : Own.Tabs w) :
    Calls Tryd.prog 31 #[.int .i64 n] w fun e w' => e = .returned (.string (dgs n)) ∧ Below w.heap.size w w' := by
  obtain ⟨x, rfl⟩ := Int.eq_ofNat_of_zero_le h0
  exact itoa_f x (by omega) w ht
theorem fmt_g (n : Int) (h0 : 0 ≤ n) (hn : n ≤ 4294967296) (w : World) (ht : Own.Tabs w) :
    Calls Tryd.prog 33 #[.int .u64 n, .int .i64 10] w fun e w' => e = .returned (.string (dgs n)) ∧ Below w.heap.size w w' := by
  obtain ⟨x, rfl⟩ := Int.eq_ofNat_of_zero_le h0
  exact fmt_f x (by omega) w ht
/-- Three cells of an epoch. -/
def EAt (w : World) (G : Nat) (a b c : Int) : Prop := w.heap[G]? = some (.cells #[.int .u16 a, .int .u8 b, .int .u16 c] 24 (0, 0))
theorem EAt.new (w : World) (a b c : Int) : EAt (w.alloc (.cells #[.int .u16 a, .int .u8 b, .int .u16 c] 24)) w.heap.size a b c := by
  unfold EAt
  rw [show (w.alloc (.cells #[.int .u16 a, .int .u8 b, .int .u16 c] 24)).heap = w.heap.push (.cells #[.int .u16 a, .int .u8 b, .int .u16 c] 24) from rfl, Array.getElem?_push, if_pos rfl]
theorem EAt.lt {w : World} {G : Nat} {a b c : Int} (h : EAt w G a b c) : G < w.heap.size := lt_of_block h
theorem EAt.on {w w' : World} {G B : Nat} {a b c : Int} (h : EAt w G a b c) (hb : Below B w w') (hE : G < B) : EAt w' G a b c := (hb.block G hE).trans h
theorem EAt.cells {w : World} {G : Nat} {a b c : Int} (h : EAt w G a b c) : w.cell? ⟨G, 0, none⟩ = some (.int .u16 a) ∧ w.cell? ⟨G, 1, none⟩ = some (.int .u8 b) ∧ w.cell? ⟨G, 2, none⟩ = some (.int .u16 c) := ⟨blk_cell h 0, blk_cell h 1, blk_cell h 2⟩
/-- What an epoch's walk keeps. -/
structure Ek (w0 w : World) (a b c : Int) : Prop where
  at_ : EAt w w0.heap.size a b c
  tab : Own.Tabs w
  below : Below w0.heap.size w0 w
theorem Ek.start (w : World) (a b c : Int) (ht : Own.Tabs w) : Ek w (w.alloc (.cells #[.int .u16 a, .int .u8 b, .int .u16 c] 24)).drew a b c := ⟨EAt.new w a b c, Own.tabs_drew (Own.tabs_alloc ht _), ((Below.refl w.heap.size w).alloc (Nat.le_refl _) _).trans ⟨rfl, rfl, rfl, Nat.le_refl _, fun _ _ => rfl⟩⟩
theorem Ek.on {w0 w w' : World} {a b c : Int} (h : Ek w0 w a b c) (hb : Below w.heap.size w w') : Ek w0 w' a b c := ⟨h.at_.on hb h.at_.lt, Own.tabs_below h.tab hb, h.below.trans (hb.mono h.below.size)⟩
def etext (a b c : Int) : ByteArray := dgs a ++ (⟨#[46]⟩ : ByteArray) ++ dgs b ++ (⟨#[46]⟩ : ByteArray) ++ dgs c
set_option maxHeartbeats 2000000 in
theorem etext_f (w : World) (a b c : Int) (ha : 0 ≤ a ∧ a < 65536) (hb : 0 ≤ b ∧ b < 256) (hc : 0 ≤ c ∧ c < 65536) (ht : Own.Tabs w) :
    Calls Tryd.prog 32 #[.agg #[.int .u16 a, .int .u8 b, .int .u16 c]] w fun e w' => e = .returned (.string (etext a b c)) ∧ Below w.heap.size w w' := by
  have sa := dgs_size a (by omega)
  have sb := dgs_size b (by omega)
  have sc := dgs_size c (by omega)
  have HA := Aside0.mk fun W ht => itoa_g a ha.1 (by omega) W ht
  have HBB := Aside0.mk fun W ht => itoa_g b hb.1 (by omega) W ht
  have HC := Aside0.mk fun W ht => itoa_g c hc.1 (by omega) W ht
  unfold etext
  generalize dgs a = A at *
  generalize dgs b = B at *
  generalize dgs c = C at *
  have wa : IntKind.i64.wrap a = a := IntWalk.i64_in a (by omega)
  have wb : IntKind.i64.wrap b = b := IntWalk.i64_in b (by omega)
  have wc : IntKind.i64.wrap c = c := IntWalk.i64_in c (by omega)
  have hk := Ek.start w a b c ht
  have HE := Aside0.mk hk
  obtain ⟨W0, hW0⟩ : ∃ W, w.alloc (.cells #[.int .u16 a, .int .u8 b, .int .u16 c] 24) = W := ⟨_, rfl⟩
  rw [hW0] at HE
  clear ht hk ha hb hc
  have s1 : (9223372036854775807 < A.size + 1) = False := eq_false (by omega)
  have s2 : (9223372036854775807 < A.size + 1 + B.size) = False := eq_false (by omega)
  have s3 : (9223372036854775807 < A.size + 1 + B.size + 1) = False := eq_false (by omega)
  have s4 : (9223372036854775807 < A.size + 1 + B.size + 1 + C.size) = False := eq_false (by omega)
  go_enter Tryd.func32, Tryd.ntmps32
  go_upto_region 1 with (fail)
  try rw [hW0]
  clear hW0
  generalize hEq : w.heap.size = G at *
  have HSZ := Aside0.mk hEq
  clear hEq
  go_region_held_law (fun w' => w'.cell? ⟨G, 0, none⟩ = some (.int .u16 a) ∧ w'.cell? ⟨G, 1, none⟩ = some (.int .u8 b) ∧ w'.cell? ⟨G, 2, none⟩ = some (.int .u16 c)) ((rw [← HSZ.out]; exact HE.out.at_.cells)) (first | (go_at_call 31; (with_reducible refine (HA.out _ HE.out.tab).mono ?_); rintro e w1 ⟨rfl, hb⟩; have n0_ := Aside0.mk (HE.out.on hb); clear HE hb; have HE := n0_; clear n0_) | (go_at_call 31; (with_reducible refine (HBB.out _ HE.out.tab).mono ?_); rintro e w1 ⟨rfl, hb⟩; have n0_ := Aside0.mk (HE.out.on hb); clear HE hb; have HE := n0_; clear n0_) | (go_at_call 31; (with_reducible refine (HC.out _ HE.out.tab).mono ?_); rintro e w1 ⟨rfl, hb⟩; have n0_ := Aside0.mk (HE.out.on hb); clear HE hb; have HE := n0_; clear n0_))
  all_goals go_wp2_with (fail)
  all_goals go_ret
  all_goals exact ⟨rfl, HE.out.below⟩
end Go.Proofs.YtkcaifpmceoflaaDoor.Frm
