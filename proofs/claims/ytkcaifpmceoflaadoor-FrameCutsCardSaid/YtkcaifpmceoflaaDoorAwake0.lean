import Derived.Test.YtkcaifpmceoflaaDoorText2
namespace Go.Proofs.YtkcaifpmceoflaaDoor.Frm
open Go.RowKit Go.Proofs.YtkcaifpmceoflaaDoorW.PrintWords Go.Proofs.YtkcaifpmceoflaaDoorW.PrintLast Go.Proofs.YtkcaifpmceoflaaDoorW.PrintMore
theorem dgs_one (n : Nat) (h : n < 10) : dgs (n : Int) = ⟨#[UInt8.ofNat (48 + n)]⟩ := by
  unfold dgs
  rw [Int.toNat_natCast, Lib.decDigits, dif_pos h]
/-- The frame that 'awake' sends. -/
def F0 : Fr := ⟨1, 3, 5, 1, 2, 8, 3, 1, 4, 0, 0, 0, false, 0, 0, 0, 0, 0, ⟨#[]⟩⟩
theorem text_F0 : txt (head5 F0 ⟨#[116, 111, 107, 101, 110]⟩ (dgs F0.dst)) = ⟨#[116, 111, 107, 101, 110, 32, 51, 32, 62, 32, 53, 32, 56, 46, 51, 46, 49, 47, 52]⟩ := by
  have h1 := dgs_one 1 (by decide)
  have h3 := dgs_one 3 (by decide)
  have h4 := dgs_one 4 (by decide)
  have h5 := dgs_one 5 (by decide)
  have h8 := dgs_one 8 (by decide)
  have e : head5 F0 ⟨#[116, 111, 107, 101, 110]⟩ (dgs F0.dst) = [⟨#[116, 111, 107, 101, 110]⟩, ⟨#[51]⟩, ⟨#[62]⟩, ⟨#[53]⟩, ⟨#[56, 46, 51, 46, 49, 47, 52]⟩] := by
    unfold head5 etext F0
    simp only
    rw [show (3 : Int) = ((3 : Nat) : Int) from rfl, show (5 : Int) = ((5 : Nat) : Int) from rfl, show (8 : Int) = ((8 : Nat) : Int) from rfl, show (1 : Int) = ((1 : Nat) : Int) from rfl, show (4 : Int) = ((4 : Nat) : Int) from rfl, h1, h3, h4, h5, h8]
    rfl
  rw [e]
  rfl
end Go.Proofs.YtkcaifpmceoflaaDoor.Frm
