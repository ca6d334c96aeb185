import Derived.Test.YtncimnfhfomddaaDoorDutW
/- enforce: acceptable. -/
namespace Go.Proofs.YtncimnfhfomddaaDoor
open Go.ChangeShapes Go.WideShapes Go.ChangeAt Go.RowKit

/-- the set is acceptable -/
def acB (n : Nat) (G : List (Int × Int)) (s : List Int) (kind : Int) : Bool := if kind = 2 then stS n (attQ G) (maskN s) else adS n (attQ G) (maskN s)
theorem boxN (w : World) (x : Value) (y z : Value) : ∃ W0, w.alloc (.cells #[x, y, z] 97) = W0 ∧ Blk W0 w.heap.size 97 #[x, y, z] ∧ Below w.heap.size w W0 ∧ W0.heap.size = w.heap.size + 1 := ⟨_, rfl, Blk.new _ _ _, (Below.refl _ _).alloc (Nat.le_refl _) _, by simp⟩
set_option maxRecDepth 100000 in
set_option maxHeartbeats 2000000 in
theorem enAcc_any (A : Option Addr) (n : Nat) (G : List (Int × Int)) (c : Nat) (Bs : Option Addr) (s : List Int) (cs : Nat) (kind : Int) (w : World) (hr : RP w A G) (hv : Vld n G) (hs : RI w Bs s) (hst : setB n s = true) (hT : Tab w) :
    Calls Tryd.prog 52 #[.agg #[.int .i64 (n : Int), .slice A G.length c], .slice Bs s.length cs, .int .i64 kind] w (RetB (.bool (acB n G s kind)) w) := by
  obtain ⟨hsr, hm⟩ := setB_mask hv.1.1 hst
  have hls := setB_len hst
  have hn := hv.1.1
  obtain ⟨r, hre⟩ : ∃ r, acB n G s kind = r := ⟨_, rfl⟩
  rw [hre]
  have h2 : kind = 2 → stS n (attQ G) (maskN s) = r := fun h => by rw [← hre]; unfold acB; rw [if_pos h]
  have h3 : kind ≠ 2 → adS n (attQ G) (maskN s) = r := fun h => by rw [← hre]; unfold acB; rw [if_neg h]
  have H2 := Lib.hid h2; have H3 := Lib.hid h3
  have hof := fun w hs => enOf_any Bs s cs w hs (by omega) hsr
  have Hof := Lib.hid hof; have Hv := Lib.hid hv; have Hm := Lib.hid hm
  clear hre h2 h3 hof hv hm hsr hst
  go_enter Tryd.func52, Tryd.ntmps52
  go_wp2_with fail
  obtain ⟨W0, hW, k0, hb0, hs0⟩ := boxG w (n : Int) A G.length c
  rw [hW]
  refine (netNew_any A n G c W0 (hr.below hb0) Hv.out.1).mono ?_
  rintro e w1 ⟨gB, gO, rfl, hgB, hgO, hrb, hro, hb⟩
  have hbb := endB hb0 hb
  clear hW k0 hb0 hs0 hb
  go_wp2_with fail
  refine (Hof.out w1 (hs.below hbb)).mono ?_
  rintro e w2 ⟨rfl, rfl⟩
  obtain ⟨W3, hW3, k3, hb3, hs3⟩ := boxN w1 (.int .u64 ((allN n : Nat) : Int)) (.slice (some ⟨gB, 0, none⟩) n n) (.slice (some ⟨gO, 0, none⟩) n n)
  have hnr : NetR W3 n G (some ⟨gB, 0, none⟩) (some ⟨gO, 0, none⟩) := (NetR.below ⟨hrb, hro⟩ hb3)
  have hb3w := endB hbb hb3
  obtain ⟨n0, n1, n2, _, _⟩ := k3.threeE
  have hT3 := hT.below hb3w
  clear hrb hro hb3 hbb k3 hgB hgO
  by_cases hk : kind = 2
  · have Hre := Lib.hid (H2.out hk)
    subst hk
    go_wp2_with fail
    refine (netStb_any Hv.out.1 Hm.out _ _ W3 hT3 hnr).mono ?_
    rintro e w4 ⟨rfl, hb4⟩
    rw [Hre.out]
    have hE := endB hb3w hb4
    go_wp2_with fail
    go_ret
    exact ⟨rfl, hE⟩
  · have Hre := Lib.hid (H3.out hk)
    have hk2 : (kind == 2) = false := by simp [hk]
    clear hk
    go_wp2_with fail
    refine (netAdm_any Hv.out.1 Hm.out _ _ W3 hT3 hnr).mono ?_
    rintro e w4 ⟨rfl, hb4⟩
    rw [Hre.out]
    have hE := endB hb3w hb4
    go_wp2_with fail
    go_ret
    exact ⟨rfl, hE⟩
end Go.Proofs.YtncimnfhfomddaaDoor
