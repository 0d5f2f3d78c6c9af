/- Names that are sorted are the names in order (for cuecardref16.Env.Names). Plain law. No condition. -/
import Derived.Test.YtbilkpioddjlfaaGreatDoorMapAt
namespace Go.Proofs.YtbilkpioddjlfaaGreatDoor
theorem namesV_of_sorted {m : Vars} {l : List (List UInt8)} (hp : l.Perm (m.map (·.1))) (hs : l.Pairwise (fun a b => leB a b = true)) : l = namesV m := by
  have tr : ∀ a b c : List UInt8, leB a b = true → leB b c = true → leB a c = true := fun a b c h1 h2 => by simp only [leB, decide_eq_true_eq] at *; exact List.le_trans h1 h2
  have to : ∀ a b : List UInt8, (leB a b || leB b a) = true := fun a b => by simp only [leB, Bool.or_eq_true, decide_eq_true_eq]; exact List.le_total a b
  refine List.Perm.eq_of_pairwise (le := fun a b => leB a b = true) (fun a b _ _ h1 h2 => ?_) hs (List.pairwise_mergeSort tr to _) (hp.trans (List.mergeSort_perm _ _).symm)
  simp only [leB, decide_eq_true_eq] at h1 h2
  exact List.le_antisymm h1 h2
#print axioms namesV_of_sorted
end Go.Proofs.YtbilkpioddjlfaaGreatDoor
