/- The table of math/bits that the rows list: where the listed variables hold what start-up lays, its cells read so; and a world that meets the condition. -/
import Derived.Test.YtbpjcgahdgpmhaaDoorRows
import Derived.Test.YtbpjcgahdgpmhaaDoorWheel2
import Derived.LaidMore
import Derived.Stop.Joined
import Derived.ProofKit
import Derived.OpenShut
namespace Go.Proofs.YtbpjcgahdgpmhaaDoor.Laid
open Go.ChangeShapes Go.WideShapes Go.ChangeAt Go.RowKit
noncomputable abbrev L : List (String × DataW Unit) := Rows.wheelSkipsRow.laid
theorem g0 : Tryd.prog.globalNamed "math/bits.deBruijn32tab" = some 0 := by kernel_rfl
theorem t0 : (Tryd.prog.globals[0]?).map (·.type) = some 50 := by kernel_rfl
theorem door_met (os : Os) (args : Array Value) : laidMetH Tryd.prog L ((World.doorLaid Tryd.prog 400 os).forCall (fun _ _ => 0) ⟨#[], args, []⟩).memory :=
  laidMetH_of_parts3 (fuel := 8) (laidMet_of_run' 8 (by kernel_rfl) (by kernel_rfl)) (by kernel_rfl) (by kernel_rfl)
theorem tabs {W : World} (h : laidMetH Tryd.prog L W) : Whl.Tabs W := by
  rw [MakeChecks.laidMetH_plain _ _ _ (by kernel_rfl)] at h
  obtain ⟨ps, ⟨g, t, cs, f, p, q, hg, ht, hv, hd, _⟩, _⟩ := h
  obtain rfl := Option.some.inj (g0.symm.trans hg)
  obtain rfl := Option.some.inj (t0.symm.trans ht)
  obtain ⟨xs, m, rfl, hx, hlen, hn, hel⟩ := DataW.trod_array Tryd.underlying50 hd
  have c5 : Tryd.prog.cellsOf 5 = 1 := by kernel_rfl
  simp only [Prod.mk.injEq] at hx
  have hx1 := hx.1
  unfold Rows.laid_math_bits_deBruijn32tab at hx1
  have hx2 : xs.map (·.1) = Lib.deBruijn32tab.map fun (n : Nat) => (.lit (.int .u8 (n : Int)) : DataW Unit) := by
    have := DataW.agg.inj hx1
    rw [← this]
    rfl
  intro j hj
  have hj32 : j < 32 := hj
  have hxj : xs[j]? = some (xs[j]'(by omega)) := List.getElem?_eq_getElem (by omega)
  have hje := hel j hj32
  rw [hxj, c5, Nat.mul_one] at hje
  obtain ⟨n, e1, e2, _⟩ := DataW.trod_int Tryd.underlying5 hje
  have h1 : (xs.map (·.1))[j]? = some (.lit (.int .u8 n)) := by rw [List.getElem?_map, hxj, e2]; rfl
  rw [hx2, List.getElem?_map] at h1
  obtain ⟨k, hk, hk2⟩ := Option.map_eq_some_iff.1 h1
  have hn2 : n = (k : Int) := by
    injection hk2 with hk2
    injection hk2 with _ hk2
    exact hk2.symm
  have hc : cs[j]? = some (.int .u8 n) := by
    have : ((cs.toList.drop j).take 1)[0]? = some (.int .u8 n) := by rw [e1]; rfl
    rw [List.getElem?_take_of_lt (by decide), List.getElem?_drop, Nat.add_zero] at this
    simpa using this
  rw [World.var?_cell g0 hv j, hc, hn2]
  simp [List.getD, hk]
end Go.Proofs.YtbpjcgahdgpmhaaDoor.Laid
