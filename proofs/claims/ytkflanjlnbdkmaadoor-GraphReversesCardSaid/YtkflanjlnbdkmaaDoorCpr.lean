/- The components of the reversed graph. No program in sight. -/
import Derived.Test.YtkflanjlnbdkmaaDoorCpl
namespace Go.Proofs.YtkflanjlnbdkmaaDoor
open Go.ChangeShapes Go.WideShapes Go.ChangeAt Go.RowKit

theorem rc_rev1 {l : List (Int × Int)} {i j : Nat} (h : Rc (att (revL l)) i j) : Rc (att l) j i := by
  induction h with
  | refl => exact Rc.refl
  | tail _ e ih => exact (Rc.one (att_revL.1 e)).trans ih
theorem rc_rev2 {l : List (Int × Int)} {i j : Nat} (h : Rc (att l) i j) : Rc (att (revL l)) j i := by
  induction h with
  | refl => exact Rc.refl
  | tail _ e ih => exact (Rc.one (att_revL.2 e)).trans ih
theorem rch_rev {n : Nat} {l : List (Int × Int)} (hv : Vld n l) {i j : Nat} (hi : i < n) (hj : j < n) : rchB n (revL l) i j = rchB n l j i := by
  rw [Bool.eq_iff_iff, rch_iff (revL_vld hv).1 hi, rch_iff hv.1 hj]
  exact ⟨rc_rev1, rc_rev2⟩
theorem scc_rev {n : Nat} {l : List (Int × Int)} (hv : Vld n l) {i : Nat} (hi : i < n) : sccM n (revL l) i = sccM n l i := by
  apply has_ext
  intro j
  rw [has_scc (revL_vld hv).1 hi, has_scc hv.1 hi]
  exact ⟨fun h => ⟨rc_rev1 h.2, rc_rev1 h.1⟩, fun h => ⟨rc_rev2 h.2, rc_rev2 h.1⟩⟩
theorem repL_rev {n : Nat} {l : List (Int × Int)} (hv : Vld n l) : repL n (revL l) = repL n l := by
  unfold repL
  apply List.filter_congr
  intro i hi
  have hi' := List.mem_range.1 hi
  rw [Bool.eq_iff_iff, repB_iff (revL_vld hv).1 hi', repB_iff hv.1 hi']
  exact ⟨fun h j hj hr => h j hj ⟨rc_rev2 hr.2, rc_rev2 hr.1⟩, fun h j hj hr => h j hj ⟨rc_rev1 hr.2, rc_rev1 hr.1⟩⟩
theorem comps_rev {n : Nat} {l : List (Int × Int)} (hv : Vld n l) : (compsL n (revL l)).Perm (compsL n l) := by
  have h1 := (comps_order hv n _ _ (flen_rep n l) (comps_start hv)).1
  have h2 := (comps_order (revL_vld hv) n _ _ (flen_rep n (revL l)) (comps_start (revL_vld hv))).1
  have e : (repL n (revL l)).map (sccM n (revL l)) = (repL n l).map (sccM n l) := by
    rw [repL_rev hv]
    apply List.map_congr_left
    intro i hi
    have : i < n := by unfold repL at hi; exact List.mem_range.1 (List.mem_filter.1 hi).1
    exact scc_rev hv this
  rw [e] at h2
  exact ((h2.trans h1.symm).map _)
end Go.Proofs.YtkflanjlnbdkmaaDoor
