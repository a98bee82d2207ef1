/- Bits of 16: the place of the least, and how many; the wheel's Len. Conditions: those that each statement names. -/
import Derived.Test.YtbpjcgahdgpmhaaDoorWheel1
import Derived.Shelf.Spec.TrailingZeros
namespace Go.Proofs.YtbpjcgahdgpmhaaDoor.Whl
open Go.RowKit Go.Proofs.YtbpjcgahdgpmhaaDoorW.PrintWords Go.Proofs.YtbpjcgahdgpmhaaDoorW.PrintLast Go.Proofs.YtbpjcgahdgpmhaaDoorW.PrintMore
set_option linter.unusedVariables false
/-- The table that TrailingZeros16 reads holds what start-up laid. -/
def Tabs (w : World) : Prop := ∀ j, j < Lib.deBruijn32tab.length → w.cell? ⟨0, j, none⟩ = some (.int .u8 (Lib.deBruijn32tab.getD j 0 : Int))
theorem Tabs.below {w w' : World} (h : Tabs w) {B : Nat} (hb : Below B w w') (hB : 0 < B) : Tabs w' := fun j hj => (hb.cell hB).trans (h j hj)
theorem Tabs.turn {w w' : World} {g : Nat} (h : Tabs w) (ht : Turn g w w') (hg : 0 < g) : Tabs w' := fun j hj => (World.cell?_of_block (w := w) (ht.block 0 (World.block_lt_of_cell? w _ (h j hj)) (by omega))).trans (h j hj)
theorem Tabs.drawn {w w' : World} (h : Tabs w) (d : Drawn0 w w') : Tabs w' := by
  obtain ⟨n, rfl⟩ := d
  exact h
theorem tz_key (x a : Nat) (hx : x < 65536) (hx0 : x ≠ 0) (hlow : x &&& (65536 - x) = a) :
    Go.bits .and .u16 (x : Int) (IntKind.u16.wrap (-(x : Int))) % 4294967296 * 125613361 % 4294967296 / 134217728 = ((a * 125613361 % 4294967296 / 134217728 : Nat) : Int) := by
  have e1 : IntKind.u16.wrap (-(x : Int)) = ((65536 - x : Nat) : Int) := by rw [IntKind.wrap_u16]; omega
  rw [e1, (u16_bits x _ hx (by omega)).1, hlow]
  omega
theorem tz_core (x k idx : Nat) (w : World) (hx0 : ((x : Int) == 0) = false)
    (key : Go.bits .and .u16 (x : Int) (IntKind.u16.wrap (-(x : Int))) % 4294967296 * 125613361 % 4294967296 / 134217728 = (idx : Int))
    (hi : idx < 32) (hk : k < 32) (hcell : w.cell? ⟨0, idx, none⟩ = some (.int .u8 k)) :
    Calls Tryd.prog 20 #[.int .u16 x] w fun e w' => e = .returned (.int .i64 k) ∧ Drawn0 w w' := by
  go_enter Tryd.func20, Tryd.ntmps20
  go_wp2_with (simp only [key])
  go_ret
  exact ⟨rfl, Drawn0.refl _⟩
theorem tz_f (x : Nat) (w : World) (hx : x < 65536) (h0 : x ≠ 0) (ht : Tabs w) :
    Calls Tryd.prog 20 #[.int .u16 x] w fun e w' => e = .returned (.int .i64 (Lib.ctz 16 x)) ∧ Drawn0 w w' := by
  obtain ⟨hlow, hk⟩ := Lib.lowest_bit 16 x h0 hx
  obtain ⟨hi, htab⟩ := Lib.deBruijn32_at _ (show Lib.ctz 16 x < 32 by omega)
  have hcell := ht _ hi
  rw [htab] at hcell
  exact tz_core x _ _ w (by simp; omega) (tz_key x _ hx h0 hlow) hi (by omega) hcell

def ones (x : Nat) : Nat := Lib.onesCount (x / 256) + Lib.onesCount (x % 256)
theorem and255 (x : Int) (h0 : 0 ≤ x) (h1 : x < 65536) : Go.bits .and .u16 x 255 = x % 256 :=
  bits_mask .u16 16 (by decide) (fun n h0 h1 => by rw [IntKind.wrap_u16]; omega) 8 (by decide) x h0 h1
theorem ones_le : ∀ n : Fin 256, Lib.onesCount n.val ≤ 8 := by decide +kernel
theorem pop8_ones (b : Int) (h0 : 0 ≤ b) (h1 : b ≤ 255) : Lib.pop8 b = (Lib.onesCount b.toNat : Int) := by
  have h := Lib.pop8_eq ⟨b.toNat, by omega⟩
  simp only at h
  rw [← h]
  congr 1
  omega
theorem ones_f (x : Nat) (w : World) (hx : x < 65536) :
    Calls Tryd.prog 23 #[.int .u16 x] w fun e w' => e = .returned (.int .i64 (ones x)) ∧ Drawn0 w w' := by
  have e3 := and255 x (by omega) (by omega)
  have b2 : (x : Int) / 256 ≤ 255 := by omega
  have b4 : (x : Int) % 256 ≤ 255 := by omega
  have c2 : 0 ≤ (x : Int) / 256 := by omega
  have c4 : 0 ≤ (x : Int) % 256 := by omega
  have key : (Lib.pop8 ((x : Int) / 256) + Lib.pop8 ((x : Int) % 256)) % 256 = (ones x : Int) := by
    have l3 := ones_le ⟨x / 256, by omega⟩
    have l4 := ones_le ⟨x % 256, by omega⟩
    simp only at l3 l4
    rw [pop8_ones _ c2 b2, pop8_ones _ c4 b4]
    unfold ones
    rw [show ((x : Int) / 256).toNat = x / 256 by omega, show ((x : Int) % 256).toNat = x % 256 by omega]
    omega
  have KEY := Aside0.mk key
  clear key
  have t9 := Tryd.underlying9
  have u9 := run_underlying t9
  go_enter Tryd.func23, Tryd.ntmps23
  go_wp2_with fail
  go_quiet (fail)
  go_wp2
  go_ret
  exact ⟨ret_int KEY.out, by repeat (first | exact Drawn0.refl _ | apply Drawn0.step | exact Drawn0.drewN _ _ | exact ⟨_, rfl⟩)⟩
theorem len_f (w : World) (g : Nat) (s : Wh) (h : At w g s) (hs : s.set < 65536) :
    Calls Tryd.prog 18 #[.pointer (some ⟨g, 0, none⟩)] w fun e w' => e = .returned (.int .i64 (ones s.set)) ∧ Drawn0 w w' := by
  have h1 := h.set
  have HO := Aside0.mk fun w1 : World => ones_f s.set w1 hs
  clear h hs
  go_enter Tryd.func18, Tryd.ntmps18
  go_wp2_with (go_at_call 23; refine (HO.out _).mono ?_; rintro e w' ⟨rfl, ⟨nd, rfl⟩⟩)
  go_ret
  exact ⟨rfl, ⟨_, rfl⟩⟩
end Go.Proofs.YtbpjcgahdgpmhaaDoor.Whl
