/- Cells of a frame, in pieces as regions read them. -/
import Derived.Test.YtkcaifpmceoflaaDoorWaked
namespace Go.Proofs.YtkcaifpmceoflaaDoor.Frm
open Go.RowKit Go.Proofs.YtkcaifpmceoflaaDoorW.PrintWords Go.Proofs.YtkcaifpmceoflaaDoorW.PrintLast Go.Proofs.YtkcaifpmceoflaaDoorW.PrintMore
set_option linter.unusedVariables false
theorem St.drew {w0 w : World} {L : List (Nat × Fr)} (h : St w0 w L) : St w0 w.drew L := h.on ⟨rfl, rfl, rfl, Nat.le_refl _, fun _ _ => rfl⟩
theorem FAt.nine {w : World} {E : Nat} {f : Fr} (h : FAt w E f) : w.cell? ⟨E, 1, none⟩ = some (.int .u8 f.src) ∧ w.cell? ⟨E, 2, none⟩ = some (.int .u8 f.dst) ∧ w.cell? ⟨E, 3, none⟩ = some (.int .u16 f.sinc) ∧ w.cell? ⟨E, 4, none⟩ = some (.int .u16 f.dinc) ∧ w.cell? ⟨E, 5, none⟩ = some (.int .u16 f.ec) ∧ w.cell? ⟨E, 6, none⟩ = some (.int .u8 f.ea) ∧ w.cell? ⟨E, 7, none⟩ = some (.int .u16 f.ei) ∧ w.cell? ⟨E, 8, none⟩ = some (.int .u16 f.hop) := ⟨blk_cell h 1, blk_cell h 2, blk_cell h 3, blk_cell h 4, blk_cell h 5, blk_cell h 6, blk_cell h 7, blk_cell h 8⟩
theorem FAt.six {w : World} {E : Nat} {f : Fr} (h : FAt w E f) : w.cell? ⟨E, 13, none⟩ = some (.int .u8 f.blk) ∧ w.cell? ⟨E, 14, none⟩ = some (.int .u16 f.vinc) ∧ w.cell? ⟨E, 15, none⟩ = some (.int .u32 f.vseq) ∧ w.cell? ⟨E, 16, none⟩ = some (.int .u8 f.part) ∧ w.cell? ⟨E, 17, none⟩ = some (.int .u8 f.parts) ∧ w.cell? ⟨E, 18, none⟩ = some (.string f.bytes) := ⟨blk_cell h 13, blk_cell h 14, blk_cell h 15, blk_cell h 16, blk_cell h 17, blk_cell h 18⟩
theorem FAt.four {w : World} {E : Nat} {f : Fr} (h : FAt w E f) : w.cell? ⟨E, 0, none⟩ = some (.int .i64 f.kind) ∧ w.cell? ⟨E, 9, none⟩ = some (.int .u16 f.hc) ∧ w.cell? ⟨E, 10, none⟩ = some (.int .u8 f.ha) ∧ w.cell? ⟨E, 11, none⟩ = some (.int .u16 f.hi) ∧ w.cell? ⟨E, 12, none⟩ = some (.bool f.wants) := ⟨blk_cell h 0, blk_cell h 9, blk_cell h 10, blk_cell h 11, blk_cell h 12⟩
end Go.Proofs.YtkcaifpmceoflaaDoor.Frm
