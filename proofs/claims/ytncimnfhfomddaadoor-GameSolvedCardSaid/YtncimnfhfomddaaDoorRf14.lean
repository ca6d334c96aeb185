/- The reference's search for complete labellings: settled, extend, Complete. -/
import Derived.Test.YtncimnfhfomddaaDoorLb
import Derived.Test.YtncimnfhfomddaaDoorSch
namespace Go.Proofs.YtncimnfhfomddaaDoor
open Go.ChangeShapes Go.WideShapes Go.ChangeAt Go.RowKit

/-- node k and its attackers are among the labelled ones -/
def knB (l : List (Int × Int)) (m : Nat) (k : Int) : Bool := decide (k < (m : Int)) && (attackersL l k).all fun a => decide (a < (m : Int))
theorem sett_kn (n : Nat) (l : List (Int × Int)) (s : List Int) : settB n l s = (illL n l (padL n s)).all fun k => !knB l s.length k := rfl
theorem pad_snoc {s : List Int} {j : Nat} : s ++ List.replicate j (3 : Int) ++ [3] = s ++ List.replicate (j + 1) 3 := by rw [List.append_assoc, List.replicate_succ']
theorem ill_len (n : Nat) (l : List (Int × Int)) (x : List Int) : (illL n l x).length ≤ n := by
  unfold illL
  split
  · exact nodesB_length ..
  · simp
theorem ill_mem {n : Nat} {l : List (Int × Int)} {x : List Int} {k : Int} (h : k ∈ illL n l x) : ∃ i : Nat, k = i ∧ i < n := by
  unfold illL at h
  split at h
  · obtain ⟨i, hi, _, rfl⟩ := mem_nodesB.1 h; exact ⟨i, rfl, hi⟩
  · cases h

/-- found's row may have grown, or lie elsewhere; all else is as it was -/
theorem grown_led {a b c : World} {v v' : Value} (h : a.grownBy b v.ownBlock) (hl : Led a v v') (k : b.grownBy c v'.ownBlock) : a.grownBy c v.ownBlock :=
  ⟨k.os.trans h.os, k.tape.trans h.tape, k.output.trans h.output, Nat.le_trans h.size k.size, fun i hi hv => (k.block i (Nat.lt_of_lt_of_le hi h.size) (fun e => by
    rcases hl with hl | hl
    · exact hv (e.trans hl)
    · have := hl i e.symm; omega)).trans (h.block i hi hv)⟩
theorem below_own {W a b : World} {v : Value} {B : Nat} {xs : List Value} (h : Below W.heap.size W a) (ho : OwnS a B v xs) (hB : W.heap.size ≤ B) (hg : a.grownBy b v.ownBlock) : Below W.heap.size W b :=
  ⟨hg.os.trans h.os, hg.tape.trans h.tape, hg.output.trans h.output, Nat.le_trans h.size hg.size, fun k hk => (hg.block k (Nat.lt_of_lt_of_le hk h.size) (fun e => by have := (World.ownsRow.lt ho k e.symm).1; omega)).trans (h.block k hk)⟩

/-- the call returns the lists so far and those that it finds, up to 201 -/
def RetEx (ls F : List (List Int)) (v : Value) (B : Nat) (w : World) : Ending → World → Prop := fun e w' => ∃ A' c' xs', e = .returned (.slice A' (capL 201 F ls).length c') ∧ Fou w' B (.slice A' (capL 201 F ls).length c') xs' (capL 201 F ls) ∧ w.grownBy w' v.ownBlock ∧ Led w v (.slice A' (capL 201 F ls).length c')

end Go.Proofs.YtncimnfhfomddaaDoor
