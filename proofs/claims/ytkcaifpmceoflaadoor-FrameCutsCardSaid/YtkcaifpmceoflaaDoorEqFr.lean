/- '==' of two frames. -/
import Derived.Test.YtkcaifpmceoflaaDoorDec
namespace Go.Proofs.YtkcaifpmceoflaaDoor.Frm
open Go.RowKit Go.Proofs.YtkcaifpmceoflaaDoorW.PrintWords Go.Proofs.YtkcaifpmceoflaaDoorW.PrintLast Go.Proofs.YtkcaifpmceoflaaDoorW.PrintMore
set_option linter.unusedVariables false
theorem eq_yes (f : Fr) (W : World) : (binOp .eql 29 (.agg (FC f)) (.agg (FC f))).run Tryd.prog W = .ok (.bool true) W := by
  go_simp
theorem Fr.same (f g : Fr) (h0 : f.kind = g.kind) (h1 : f.src = g.src) (h2 : f.dst = g.dst) (h3 : f.sinc = g.sinc) (h4 : f.dinc = g.dinc) (h5 : f.ec = g.ec) (h6 : f.ea = g.ea) (h7 : f.ei = g.ei) (h8 : f.hop = g.hop) (h9 : f.hc = g.hc) (h10 : f.ha = g.ha) (h11 : f.hi = g.hi) (h12 : f.wants = g.wants) (h13 : f.blk = g.blk) (h14 : f.vinc = g.vinc) (h15 : f.vseq = g.vseq) (h16 : f.part = g.part) (h17 : f.parts = g.parts) (h18 : f.bytes.toList = g.bytes.toList) : f = g := by
  cases f
  cases g
  simp only at *
  have h19 : ∀ a b : ByteArray, a.toList = b.toList → a = b := fun a b h => by
    rw [Lib.toList_data, Lib.toList_data] at h
    exact ByteArray.ext (Array.toList_inj.1 h)
  have h20 := h19 _ _ h18
  subst h0 h1 h2 h3 h4 h5 h6 h7 h8 h9 h10 h11 h12 h13 h14 h15 h16 h17 h20
  rfl
theorem eq_no (f g : Fr) (h : f ≠ g) (W : World) : (binOp .eql 29 (.agg (FC f)) (.agg (FC g))).run Tryd.prog W = .ok (.bool false) W := by
  go_simp
  intro h0 h1 h2 h3 h4 h5 h6 h7 h8 h9 h10 h11 h12 h13 h14 h15 h16 h17 h18
  exact h (Fr.same f g h0 h1 h2 h3 h4 h5 h6 h7 h8 h9 h10 h11 h12 h13 h14 h15 h16 h17 h18)
end Go.Proofs.YtkcaifpmceoflaaDoor.Frm
