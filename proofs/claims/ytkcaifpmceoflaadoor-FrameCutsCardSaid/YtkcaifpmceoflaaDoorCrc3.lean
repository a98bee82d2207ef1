/- Sealed at its length less two: what the document asks and what the program asks are one. -/
import Derived.Test.YtkcaifpmceoflaaDoorCrc2
namespace Go.Proofs.YtkcaifpmceoflaaDoor.Frm
open Go.RowKit Go.Proofs.YtkcaifpmceoflaaDoorW.PrintWords Go.Proofs.YtkcaifpmceoflaaDoorW.PrintLast Go.Proofs.YtkcaifpmceoflaaDoorW.PrintMore
set_option linter.unusedVariables false
set_option linter.unusedSimpArgs false
theorem part8 : ∀ c : BitVec 8, ((lo c <<< 8) >>> 8).setWidth 8 = c ∧ (lo c >>> 8).setWidth 8 = 0#8 ∧ (lo c <<< 8).setWidth 8 = 0#8 ∧ (lo c).setWidth 8 = c := by decide +kernel
theorem bvs_inj (s t : ByteArray) (h : bvs s = bvs t) : s = t := by
  have h2 : s.data.toList = t.data.toList := by
    unfold bvs at h
    refine (List.map_inj_right ?_).1 h
    intro a b hab
    exact UInt8.eq_of_toBitVec_eq hab
  apply ByteArray.ext
  exact Array.toList_inj.1 h2
theorem bvs_extract (s : ByteArray) (a b : Nat) : bvs (s.extract a b) = ((bvs s).take b).drop a := by
  unfold bvs
  rw [ByteArray.data_extract, Array.toList_extract, List.extract_eq_drop_take', List.map_drop, List.map_take]
theorem last_two (s : ByteArray) (h : 2 ≤ s.size) : ∃ a b : BitVec 8, bvs s = bvs (s.extract 0 (s.size - 2)) ++ [a, b] := by
  have hl := bvs_len s
  have e : bvs s = (bvs s).take (s.size - 2) ++ (bvs s).drop (s.size - 2) := (List.take_append_drop _ _).symm
  have h2 : ((bvs s).drop (s.size - 2)).length = 2 := by rw [List.length_drop, hl]; omega
  obtain ⟨a, b, hab⟩ : ∃ a b, (bvs s).drop (s.size - 2) = [a, b] := by
    generalize (bvs s).drop (s.size - 2) = l at h2
    match l, h2 with
    | [a, b], _ => exact ⟨a, b, rfl⟩
  refine ⟨a, b, ?_⟩
  rw [bvs_extract, List.drop_zero, ← hab]
  exact e
theorem sealed_iff (s : ByteArray) (h : 2 ≤ s.size) : s.extract 0 (s.size - 2) ++ two8 (crc (s.extract 0 (s.size - 2))) = s ↔ crc s = 0#16 := by
  constructor
  · intro e
    have h2 := crc_seal (s.extract 0 (s.size - 2))
    rwa [e] at h2
  · intro e
    obtain ⟨a, b, hab⟩ := last_two s h
    apply bvs_inj
    rw [bvs_append, bvs_two8, hab]
    congr 1
    unfold crc at e
    rw [hab, zt_append, zt_self] at e
    have e2 : crc (s.extract 0 (s.size - 2)) = (lo a <<< 8) ^^^ lo b := e
    rw [e2]
    have p1 : (((lo a <<< 8) ^^^ lo b) >>> 8).setWidth 8 = a := by
      rw [BitVec.ushiftRight_xor_distrib, BitVec.setWidth_xor, (part8 a).1, (part8 b).2.1, BitVec.xor_zero]
    have p2 : ((lo a <<< 8) ^^^ lo b).setWidth 8 = b := by
      rw [BitVec.setWidth_xor, (part8 a).2.2.1, (part8 b).2.2.2, BitVec.zero_xor]
    rw [p1, p2]
end Go.Proofs.YtkcaifpmceoflaaDoor.Frm
