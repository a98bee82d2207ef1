/- The law's function MembersParts answers true, for every set and every pair of bytes. Conditions: the set has 32 bits, the bytes are bytes, the table of math/bits reads as laid. -/
import Derived.Test.YtfhiggefmcklaaaDoorParts
import Derived.Test.YtfhiggefmcklaaaDoorParts0
namespace Go.Proofs.YtfhiggefmcklaaaDoor.Pure
open Go.RowKit Go.Proofs.YtfhiggefmcklaaaDoor.Own Go.Proofs.YtfhiggefmcklaaaDoor.Plain Go.Proofs.YtfhiggefmcklaaaDoorW.PrintWords Go.Proofs.YtfhiggefmcklaaaDoorW.PrintLast
theorem parts_calls (a0 x y : Int) (h0 : (Lit.int .u32 a0).wf = true) (h1 : (Lit.int .u8 x).wf = true) (h2 : (Lit.int .u8 y).wf = true) (w : World) (ht : Tabs w) :
    Calls Tryd.prog 7 #[.int .u32 a0, .agg #[.int .u8 x, .int .u8 y]] w fun e w' => e = .returned (.bool true) ∧ Below w.heap.size w w' := by
  obtain ⟨s, rfl, hs⟩ := wf32 h0
  obtain ⟨ea, la⟩ := rem_u8 x (wf8 h1).1 (wf8 h1).2
  obtain ⟨eb, lb⟩ := rem_u8 y (wf8 h2).1 (wf8 h2).2
  generalize (x % 32).toNat = a at ea la
  generalize (y % 32).toNat = b at eb lb
  obtain ⟨K1, k1⟩ := awake_ev
  obtain ⟨K2, k2⟩ := pass_in s a b la lb
  have hA := k1 (max K1 K2) (by omega)
  have hp := k2 (max K1 K2) (by omega)
  have hu := between_f a b la lb
  have hd := between_f b a lb la
  have he1 : members_With.f 0 a = some (wth 0 a : Int) := with_f 0 a (by decide)
  have he2 : members_With.f (wth 0 a : Nat) b = some (ends a b : Int) := with_f _ b (wth_lt _ (by decide))
  have lu := btw_lt a b la lb
  have ld := btw_lt b a lb la
  have le := ends_lt a b
  have lp := psv_lt s a b
  by_cases hab : a = b
  · subst hab
    obtain ⟨p1, p2⟩ := parts_same s a la
    exact walk_same _ s x y a a _ _ _ _ _ w hA ht ea eb hu hd he1 he2 hp (by simp) (by simp) (by rw [Go.Proofs.YtfhiggefmcklaaaDoor.Own.u32_xor _ le, p1]; simp) (by rw [p2]; simp)
  · obtain ⟨p1, p2, p3, p4, p5, p6⟩ := parts_apart s a b la lb hab
    refine walk_apart _ s x y a b _ _ _ _ _ w hA ht ea eb hu hd he1 he2 hp (parts_next s a b la lb hab) (by simp; omega) ?_ ?_ ?_ ?_ (by simp) ?_ ?_
    · rw [and_f _ _ lu ld, p1]; rfl
    · rw [and_f _ _ lu le, p2]; rfl
    · rw [and_f _ _ ld le, p3]; rfl
    · rw [or_f _ _ lu ld, or_f _ _ (Nat.or_lt_two_pow lu ld) le, p4]; rfl
    · rw [and_f _ _ lp ld, and_f _ _ hs ld, p5]; simp
    · rw [and_f _ _ lp le, p6]; simp
end Go.Proofs.YtfhiggefmcklaaaDoor.Pure
