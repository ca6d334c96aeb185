import Derived.Test.YtncimnfhfomddaaDoorLoW
import Derived.Test.YtncimnfhfomddaaDoorPaW
import Derived.Test.YtncimnfhfomddaaDoorLov
/- The plain law of EnforceWorks: Check accepts what Strict and Loose return. -/
namespace Go.Proofs.YtncimnfhfomddaaDoor
open Go.ChangeShapes Go.WideShapes Go.ChangeAt Go.RowKit

section
variable {n : Nat} {G : List (Int × Int)} {s : List Int} {kind : Int}
theorem covB_self (l : List (Int × Int)) : covB l l = true := by
  unfold covB
  rw [Bool.not_eq_true', List.any_eq_false]
  intro p hp
  rw [hasB_iff.2 hp]; simp
theorem prB_strict (hv : Vld n G) (hs : setB n s = true) (hk : kind = 1 ∨ kind = 2) : prB n G s kind (strC n G s kind) (dutL n G s kind) = true := by
  have hn : (dutL n G s kind).flatten.Nodup := by
    rw [← dutR_eq hv.1 hs hk]
    exact dut_flat (vld_nodup hv) (setB_nodup hs)
  have hl : (dutL n G s kind).length = (strC n G s kind).length := by unfold strC; rw [List.length_map]
  unfold prB
  rw [decide_eq_true hl, decide_eq_true hn, Bool.true_and, Bool.true_and, List.all_eq_true]
  intro d hd
  exact List.any_eq_true.2 ⟨d, hd, covB_self d⟩
theorem tgE_strC (hv : Vld n G) (hs : setB n s = true) (hh : hpB n s kind = false) (hk : kind = 1 ∨ kind = 2) : tgE n (strC n G s kind) = 0 := tgE_ok (strC_ok hv.1 hs hh hk) (strC_nodup hv hs hh hk)
theorem strC_len (hv : Vld n G) : (strC n G s kind).length ≤ G.length + 40 := by
  unfold strC dutL
  rw [List.length_map, List.length_append]
  have h1 := dutA_len (maskN s) G
  have h3 := dutB_len n G s kind n
  have h2 := hv.1.1
  unfold dutB at h3
  omega
theorem tgErr_strC (hv : Vld n G) (hs : setB n s = true) (hh : hpB n s kind = false) (hk : kind = 1 ∨ kind = 2) : tgErr n G (strC n G s kind) = 0 := by
  unfold tgErr; rw [if_pos hv.valE]; exact tgE_strC hv hs hh hk
theorem strC_vld (hv : Vld n G) (hs : setB n s = true) (hh : hpB n s kind = false) (hk : kind = 1 ∨ kind = 2) : Vld n (tgL G (strC n G s kind)) := by
  have h1 := (strC_len (s := s) (kind := kind) hv)
  have h2 := len_of_vld hv
  exact tgL_vld hv (tgE_strC hv hs hh hk) (by omega)
theorem accR_strC (hv : Vld n G) (hs : setB n s = true) (hh : hpB n s kind = false) (hk : kind = 1 ∨ kind = 2) : accR n (tgL G (strC n G s kind)) s kind = true :=
  (accR_iff (strC_vld hv hs hh hk).1 hk).2 (strC_acc hv hs hh hk)
theorem arE_good (hv : Vld n G) (hs : setB n s = true) (hk : kind = 1 ∨ kind = 2) : arE n G s kind = 0 := by
  unfold arE; rw [if_pos hv.valE, if_pos hk, if_pos hs]
theorem chkE_strict (hv : Vld n G) (hs : setB n s = true) (hh : hpB n s kind = false) (hk : kind = 1 ∨ kind = 2) : chkE n G kind s (strC n G s kind) (dutL n G s kind) = 0 := by
  unfold chkE
  rw [if_pos (arE_good hv hs hk), if_pos (tgErr_strC hv hs hh hk), Int.toNat_natCast, ← accR_eq (strC_vld hv hs hh hk).1 hs hk, if_pos (accR_strC hv hs hh hk), if_pos (prB_strict hv hs hk)]
theorem accR_none (hv : Vld n G) (hs : setB n s = true) (hh : hpB n s kind = false) (hk : kind = 1 ∨ kind = 2) : accR n G s kind = decide (strC n G s kind = []) := by
  rw [Bool.eq_iff_iff, accR_iff hv.1 hk, decide_eq_true_iff]
  exact (strC_none hv hs hh hk).symm
theorem stErr_good (hv : Vld n G) (hs : setB n s = true) (hk : kind = 1 ∨ kind = 2) : stErr n G s kind = if hpB n s kind = true then 9 else 0 := by
  unfold stErr; rw [if_pos (arE_good hv hs hk)]
theorem loErr_good (hv : Vld n G) (hs : setB n s = true) (hk : kind = 1 ∨ kind = 2) (hn : n ≤ 10) : loErr n G s kind = 0 := by
  unfold loErr
  have h := rst_len (n := n) (s := s)
  rw [if_pos (arE_good hv hs hk), Int.toNat_natCast, if_neg (by omega)]
theorem loS_ok (hs : setB n s = true) : setB n (loS n G s kind) = true ∧ (∀ x ∈ s, x ∈ loS n G s kind) ∧ hpB n (loS n G s kind) kind = false ∧ ∀ t, setB n t = true → (∀ x ∈ s, x ∈ t) → hpB n t kind = true ∨ (dutL n G (loS n G s kind) kind).length ≤ (dutL n G t kind).length := by
  obtain ⟨b, h, h1, h2, h3, h4⟩ := lst_some (n := n) (G := G) (s := s) (kind := kind) hs
  have h5 := loS_some (n := n) (G := G) (s := s) (kind := kind) hs
  rw [h5] at h
  injection h with h
  rw [h]
  exact ⟨h1, h2, h3, h4⟩
theorem strC_le (hs : setB n s = true) (hh : hpB n s kind = false) : (strC n G (loS n G s kind) kind).length ≤ (strC n G s kind).length := by
  unfold strC
  rw [List.length_map, List.length_map]
  exact ((loS_ok hs).2.2.2 s hs (fun x h => h)).resolve_left (by rw [hh]; decide)
theorem inside_sub {a b : List Int} (h : ∀ x ∈ a, x ∈ b) : insideB a b = true := by
  unfold insideB
  rw [List.all_eq_true]
  intro x hx
  exact (inB_iff _ _).2 (h x hx)
theorem dut_mem_i64 (hv : Vld n G) (hs : setB n s = true) (hh : hpB n s kind = false) (hk : kind = 1 ∨ kind = 2) : ∀ l ∈ dutL n G s kind, ∀ p ∈ l, I64 p := fun l hl p hp => okP_i64 (Nat.le_trans hv.1.1 (by decide)) ((dut_ok hv hs hh hk l hl).2.2 p hp)
theorem flat_len {α : Type} {L : List (List α)} {m : Nat} (h : ∀ l ∈ L, l.length ≤ m) : L.flatten.length ≤ L.length * m := by
  induction L with
  | nil => simp
  | cons a L ih =>
    rw [List.flatten_cons, List.length_append, List.length_cons, Nat.succ_mul]
    have h1 := h a (by simp)
    have h2 := ih (fun l hl => h l (List.mem_cons_of_mem _ hl))
    omega
theorem dut_each (hv : Vld n G) (hs : setB n s = true) (hk : kind = 1 ∨ kind = 2) : ∀ d ∈ dutL n G s kind, d.length ≤ 80 := fun d hd => by
  rw [← dutR_eq hv.1 hs hk] at hd
  have h5 := setB_len hs
  have h4 := hv.1.1
  rcases mem_dutR.1 hd with ⟨p, _, _, _, rfl⟩ | ⟨a, _, _, _, _, rfl⟩
  · simp
  · have := dyR_len G kind a s; omega
theorem dut_flat_len (hv : Vld n G) (hs : setB n s = true) (hk : kind = 1 ∨ kind = 2) (hl : G.length ≤ 1000) : (dutL n G s kind).flatten.length ≤ 100000 := by
  have h1 := flat_len (dut_each hv hs hk)
  have h2 := (strC_len (s := s) (kind := kind) hv)
  unfold strC at h2
  rw [List.length_map] at h2
  have h3 : (dutL n G s kind).length * 80 ≤ 1040 * 80 := Nat.mul_le_mul_right _ (by omega)
  omega
end
end Go.Proofs.YtncimnfhfomddaaDoor
