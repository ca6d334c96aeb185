/- labelling.With; the grounded set in plain words. -/
import Derived.Test.YtiljbfeipfdmdaaDoorPlain12
import Derived.Test.YtiljbfeipfdmdaaDoorPartW
namespace Go.Proofs.YtiljbfeipfdmdaaDoor
open Go.ChangeShapes Go.WideShapes Go.ChangeAt Go.RowKit

/-- the places of a label -/
def withL (l : List Int) (x : Int) : List Int := nodesB l.length fun i => l.getD i 0 == x
theorem withB_congr {l : List Int} {x : Int} {k : Nat} : nodesB (k + 1) (fun i => l.getD i 0 == x) = nodesB k (fun i => l.getD i 0 == x) ++ (if l.getD k 0 == x then [(k : Int)] else []) := nodesB_succ _ _

set_option maxHeartbeats 1000000 in
theorem with_any (A : Option Addr) (l : List Int) (c : Nat) (x : Int) (w : World) (hr : RI w A l) (hl : l.length ≤ 100000) :
    Calls Tryd.prog 29 #[.slice A l.length c, .int .i64 x] w (RetI (withL l x) w) := by
  go_enter Tryd.func29, Tryd.ntmps29
  go_wp2_with fail
  go_loopw [5, 10] (fun v i wr => ∃ k : Nat, k ≤ l.length ∧ i = .int .i64 k ∧ OwnI wr w.heap.size v (nodesB k fun i => l.getD i 0 == x) ∧ Below w.heap.size w wr) (fun _ i _ => l.length - (intOf i).toNat)
  case atStart => exact ⟨0, Nat.zero_le _, rfl, OwnI.nil _ _, Below.refl _ _⟩
  case round =>
    obtain ⟨k, hk, rfl, hown, hbl⟩ := hrel
    have Hown := Lib.hid hown; clear hown
    by_cases hlt : k < l.length
    case neg =>
      obtain rfl : k = l.length := by omega
      go_wp2_with fail
      go_ret
      exact RetI.mk Hown.out hbl
    case pos =>
    obtain ⟨b, o, rfl, hc⟩ := (hr.below hbl).at_ hlt
    have hg : l.getD k 0 = l[k] := by simp [List.getD, hlt]
    have hkl : (nodesB k fun i => l.getD i 0 == x).length ≤ 1000000 := by have := nodesB_length k (fun i => l.getD i 0 == x); omega
    have Hs := Lib.hid (withB_congr (l := l) (x := x) (k := k))
    have Hg := Lib.hid hg; clear hg
    by_cases hx : l[k] = x
    · have hd : (l[k] == x) = true := by simpa using hx
      have Hd := Lib.hid hd
      clear hx
      go_wp2_with (at_builtin; refine wpList_appI (by rfl) _ _ (by rfl) wr w.heap.size _ _ (k : Int) Hown.out (by rfl) (by rfl) hkl hbl.size ?_; intro v' w3 hown' hb3 _)
      go_roundw
      case rel => exact ⟨k + 1, by omega, by go_num, by rw [Hs.out, Hg.out, Hd.out]; exact hown', hbl.trans hb3⟩
      case measure => simp [intOf]; omega
    · have hd : (l[k] == x) = false := by simpa using hx
      have Hd := Lib.hid hd
      clear hx
      go_wp2_with fail
      go_roundw
      case rel => exact ⟨k + 1, by omega, by go_num, by rw [Hs.out, Hg.out, Hd.out]; simpa using Hown.out, hbl⟩
      case measure => simp [intOf]; omega

/-- the nodes that are In -/
def grS (n : Nat) (l : List (Int × Int)) : List Int := nodesB n fun i => grL n l i == 1
theorem with_gr (n : Nat) (l : List (Int × Int)) : withL (lst n (grL n l)) 1 = grS n l := by
  unfold withL grS
  rw [lst_length]
  exact nodesB_congr fun i hi => by rw [lst_getD hi]
theorem has_grS {n : Nat} {l : List (Int × Int)} {j : Nat} : has (maskN (grS n l)) j ↔ j < n ∧ grL n l j = 1 := by
  unfold grS; rw [mask_nodesB]; simp
/-- it is a fixed point -/
theorem gr_fix {n : Nat} {l : List (Int × Int)} (hv : InR n l) : stepN n l (maskN (grS n l)) = maskN (grS n l) := by
  have inv := gr_inv hv
  apply has_ext
  intro j
  rw [has_stepN hv, has_grS]
  constructor
  · rintro ⟨hj, hd⟩
    refine ⟨hj, ?_⟩
    have hout : ∀ a, att l a j → grL n l a = 2 := fun a ha => by
      obtain ⟨b, hb, hba⟩ := hd a ha
      exact inv.outs b a (has_grS.1 hb).2 hba
    rcases inv.rng j with h | h | h
    · exact h
    · obtain ⟨a, ha, h1⟩ := inv.isOut j h
      have := hout a ha
      omega
    · have := gr_rest hv j hj
      rw [(frB_iff hv).2 ⟨hj, h, hout⟩] at this; cases this
  · rintro ⟨hj, h1⟩
    refine ⟨hj, fun a ha => ?_⟩
    obtain ⟨b, hb, hb1⟩ := inv.isOut a ((inv.isIn j h1).2 a ha)
    exact ⟨b, has_grS.2 ⟨(att_lt hv hb).1, hb1⟩, hb⟩
/-- it is the least one -/
theorem gr_least {n : Nat} {l : List (Int × Int)} (hv : InR n l) {x : Nat} (h : stepN n l x = x) : sub (maskN (grS n l)) x := by
  have key : ∀ r j, stL n l r j = 1 → has x j := by
    intro r
    induction r with
    | zero => intro j hj; simp [stL] at hj
    | succ r ih =>
      intro j hj
      simp only [stL, nxL] at hj
      split at hj
      · rename_i hf
        obtain ⟨hjn, _, ho⟩ := (frB_iff hv).1 hf
        rw [← h, has_stepN hv]
        refine ⟨hjn, fun a ha => ?_⟩
        obtain ⟨b, hb, h1⟩ := (stL_inv hv r).isOut a (ho a ha)
        exact ⟨b, ih b h1, hb⟩
      · split at hj
        · omega
        · exact ih j hj
  exact fun j hj => key n j (has_grS.1 hj).2
theorem setB_grS (n : Nat) (l : List (Int × Int)) : setB n (grS n l) = true := setB_nodes n _
theorem step_grS {n : Nat} {l : List (Int × Int)} (hv : InR n l) : stepL n l (grS n l) = grS n l := by
  unfold stepL
  rw [if_pos (setB_grS n l), gr_fix hv]
  exact set_nodes (setB_grS n l)
theorem least_grS {n : Nat} {l : List (Int × Int)} (hv : InR n l) {x : List Int} (hx : setB n x = true) (h : stepL n l x = x) : insideB (grS n l) x = true := by
  unfold stepL at h
  rw [if_pos hx] at h
  have hm := setB_mask hv.1 hx
  have h1 : stepN n l (maskN x) = maskN x := by
    have h2 : nodesB n (stepN n l (maskN x)).testBit = nodesB n (maskN x).testBit := by rw [h, set_nodes hx]
    exact nodes_inj (stepN_lt n l _) hm.2 h2
  have h3 := gr_least hv h1
  have h4 : insideB (nodesB n (maskN (grS n l)).testBit) (nodesB n (maskN x).testBit) = true := (insideB_nodes (setB_mask hv.1 (setB_grS n l)).2).2 h3
  rwa [set_nodes (setB_grS n l), set_nodes hx] at h4
/-- the characteristic function is monotone -/
theorem step_mono {n : Nat} {l : List (Int × Int)} (hv : InR n l) {f h : Nat → Bool} (hfh : ∀ i, i < n → f i = true → h i = true) : insideB (stepL n l (nodesB n f)) (stepL n l (nodesB n h)) = true := by
  unfold stepL
  rw [if_pos (setB_nodes n f), if_pos (setB_nodes n h)]
  refine (insideB_nodes (stepN_lt n l _)).2 (stepN_mono hv fun j hj => ?_)
  rw [mask_nodesB] at hj ⊢
  exact ⟨hj.1, hfh j hj.1 hj.2⟩
end Go.Proofs.YtiljbfeipfdmdaaDoor
