/- admissible: Grow, Shrink. -/
import Derived.Test.YtkfocifejoogaaaDoorAdm7
namespace Go.Proofs.YtkfocifejoogaaaDoor
open Go.ChangeShapes Go.WideShapes Go.ChangeAt Go.RowKit

/-- the call returns a new slice that holds the list, and an error number -/
def RetE (l : List Int) (er : Int) (w : World) : Ending → World → Prop := fun e w' => ∃ A c, e = .returned (.tuple #[.slice A l.length c, .int .i64 er]) ∧ OwnI w' w.heap.size (.slice A l.length c) l ∧ RI w' A l ∧ (A = none → l = []) ∧ Below w.heap.size w w'
theorem RetE.nil {w w' : World} (er : Int) (h : Below w.heap.size w w') : RetE [] er w (.returned (.tuple #[.slice none 0 0, .int .i64 er])) w' := ⟨none, 0, rfl, OwnI.nil _ _, RI.nil _ _, fun _ => rfl, h⟩

theorem sub_of_sound {n : Nat} {l : List (Int × Int)} {m : Nat} (hv : InR n l) (hm : m < 2 ^ n) (h : soundB n l m = true) : sub m (stepN n l m) := by
  intro j hj
  simp only [soundB, Bool.and_eq_true, beq_iff_eq] at h
  have h2 := h.2
  rcases Classical.em (has (stepN n l m) j) with hs | hs
  · exact hs
  · have : has (minusN m (stepN n l m)) j := (has_minusN (u64_of hv.1 hm) (u64_of hv.1 (stepN_lt n l m))).2 ⟨hj, hs⟩
    rw [h2] at this
    exact absurd this has_zero
theorem itN_lt {f : Nat → Nat} {B : Nat} (h : ∀ m, m < B → f m < B) : ∀ k m, m < B → itN f k m < B
  | 0, _, hm => hm
  | k + 1, m, hm => h _ (itN_lt h k m hm)
theorem growN_lt {n : Nat} {l : List (Int × Int)} {m : Nat} (hm : m < 2 ^ n) : growN n l m < 2 ^ n := itN_lt (fun _ _ => stepN_lt n l _) _ _ hm
theorem shrinkN_lt {n : Nat} {l : List (Int × Int)} {m : Nat} (hm : m < 2 ^ n) : shrinkN n l m < 2 ^ n := itN_lt (fun _ h => Nat.lt_of_le_of_lt Nat.and_le_left h) _ _ hm

def growL (n : Nat) (l : List (Int × Int)) (x : List Int) : List Int × Int :=
  if setB n x then if soundB n l (maskN x) then (nodesB n (growN n l (maskN x)).testBit, 0) else ([], 7) else ([], 1)
def shrinkL (n : Nat) (l : List (Int × Int)) (x : List Int) : List Int × Int :=
  if setB n x then if freeB l (maskN x) then (nodesB n (shrinkN n l (maskN x)).testBit, 0) else ([], 10) else ([], 1)

set_option maxHeartbeats 1000000 in
theorem aGrow_any (A : Option Addr) (n : Nat) (l : List (Int × Int)) (c : Nat) (B : Option Addr) (x : List Int) (cx : Nat) (w : World) (hr : RP w A l) (hv : InR n l) (hx : RI w B x) (hxl : x.length ≤ 100000) (hT : Tab w) :
    Calls Tryd.prog 29 #[.agg #[.int .i64 (n : Int), .slice A l.length c], .slice B x.length cx] w (RetE (growL n l x).1 (growL n l x).2 w) := by
  have hn := hv.1
  have hmf : ∀ (fn : Fn) (first cap : Array Value) (w : World), (Instr.makeFunc fn first cap).run Tryd.prog w = .ok (.func fn first cap) w := fun _ _ _ _ => rfl
  go_enter Tryd.func29, Tryd.ntmps29
  go_wp2_with fail
  obtain ⟨W0, hW, c0, c1, hb0, hlt0⟩ := boxed w 27 (.int .i64 (n : Int)) (.slice A l.length c)
  rw [hW]
  have hr0 := hr.below hb0
  have hx0 := hx.below hb0
  have hT0 : Tab W0 := hT.below hb0
  clear hW hr hx hT
  go_wp2_with fail
  refine (aValid_any _ _ _ _ _ _ hx0 hxl).mono ?_
  rintro e w1 ⟨rfl, hb1⟩
  obtain ⟨d0, d1, hbb⟩ := keepC c0 c1 (Below.refl _ _) hb1
  cases hs : setB n x
  · go_wp2_with fail
    go_ret2
    simp only [growL, hs]
    exact RetE.nil _ (endB hb0 hbb)
  · have hm := setB_mask hn hs
    have hmu := u64_of hn hm.2
    have hmn := hm.2
    have Hm := Lib.hid hm.1; have Hs := Lib.hid hs; clear hs hm
    go_wp2_with fail
    refine (mask_any _ _ _ _ (hx0.below hbb) hxl Hm.out).mono ?_
    rintro e w2 ⟨rfl, rfl⟩
    go_wp2_with fail
    refine (sound_any _ _ _ _ _ _ (hr0.below hbb) hv hmu).mono ?_
    rintro e w2 ⟨rfl, hb2⟩
    obtain ⟨f0, f1, hbb2⟩ := keepC d0 d1 hbb hb2
    cases hsd : soundB n l (maskN x)
    · go_wp2_with fail
      go_ret2
      simp only [growL, Hs.out, hsd]
      exact RetE.nil _ (endB hb0 hbb2)
    · have Hsd := Lib.hid hsd; clear hsd
      go_wp2_with fail
      refine (until_grow w.heap.size A n l c (maskN x) w2 ⟨f0, f1⟩ (hr0.below hbb2) hv hmn (sub_of_sound hv hmn Hsd.out)).mono ?_
      rintro e w3 ⟨rfl, hb3⟩
      have hbb3 : Below W0.heap.size W0 w3 := hbb2.trans (hb3.mono hbb2.size)
      go_wp2_with fail
      refine (list_any _ (u64_of hn (growN_lt hmn)) _ (hT0.below hbb3)).mono ?_
      rintro e w4 hh
      obtain ⟨A', c', rfl, ho, hri, hni, hb4⟩ := RetI.base hh (leB hb0 hbb3)
      go_wp2_with fail
      go_ret2
      simp only [growL, Hs.out, Hsd.out, if_true]
      rw [← nodesB_64 (growN_lt hmn) (by omega)]
      exact ⟨A', c', rfl, ho, hri, hni, endB hb0 (hbb3.trans (hb4.mono hbb3.size))⟩
end Go.Proofs.YtkfocifejoogaaaDoor
