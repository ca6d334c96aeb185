import Derived.Test.YtncimnfhfomddaaDoorWrkP
import Derived.Test.YtncimnfhfomddaaDoorRuW
/- The plain law of EnforceLeast: minima over all togglings. -/
namespace Go.Proofs.YtncimnfhfomddaaDoor
open Go.ChangeShapes Go.WideShapes Go.ChangeAt Go.RowKit

/-- the least of the counts, below 100 -/
def minK (f : Nat → Option Nat) (K : Nat) : Int := (List.range K).foldl (fun m i => match f i with
  | some c => min m (c : Int)
  | none => m) 100
theorem minK_succ (f : Nat → Option Nat) (K : Nat) : minK f (K + 1) = match f K with
    | some c => min (minK f K) (c : Int)
    | none => minK f K := by
  unfold minK; rw [List.range_succ, List.foldl_append]; rfl
theorem minK_some {f : Nat → Option Nat} {K c : Nat} (h : f K = some c) : minK f (K + 1) = min (minK f K) (c : Int) := by rw [minK_succ, h]
theorem minK_none {f : Nat → Option Nat} {K : Nat} (h : f K = none) : minK f (K + 1) = minK f K := by rw [minK_succ, h]
theorem minK_all {f : Nat → Option Nat} {K : Nat} (h : ∀ i, i < K → f i = none) : minK f K = 100 := by
  induction K with
  | zero => rfl
  | succ K ih => rw [minK_none (h K (by omega)), ih fun i hi => h i (by omega)]
theorem minK_ge {f : Nat → Option Nat} {K d : Nat} (hd : d ≤ 100) (h : ∀ i c, i < K → f i = some c → d ≤ c) : (d : Int) ≤ minK f K := by
  induction K with
  | zero => show (d : Int) ≤ 100; omega
  | succ K ih =>
    have h1 := ih fun i c hi => h i c (by omega)
    cases hf : f K with
    | none => rw [minK_none hf]; exact h1
    | some c => rw [minK_some hf]; have := h K c (by omega) hf; omega
theorem minK_le {f : Nat → Option Nat} {K d i : Nat} (hi : i < K) (h : f i = some d) : minK f K ≤ (d : Int) := by
  induction K with
  | zero => omega
  | succ K ih =>
    by_cases e : i = K
    · subst e; rw [minK_some h]; omega
    · have h1 := ih (by omega)
      cases hf : f K with
      | none => rw [minK_none hf]; exact h1
      | some c => rw [minK_some hf]; omega
theorem minK_eq {f : Nat → Option Nat} {K d i : Nat} (hd : d ≤ 100) (h : ∀ i c, i < K → f i = some c → d ≤ c) (hi : i < K) (hf : f i = some d) : minK f K = (d : Int) := by
  have := minK_ge hd h
  have := minK_le hi hf
  omega
theorem minK_bound (f : Nat → Option Nat) (K : Nat) : 0 ≤ minK f K ∧ minK f K ≤ 100 := by
  induction K with
  | zero => show (0 : Int) ≤ 100 ∧ (100 : Int) ≤ 100; omega
  | succ K ih =>
    cases hf : f K with
    | none => rw [minK_none hf]; exact ih
    | some c => rw [minK_some hf]; omega
/-- the pair with a number -/
def prN (n : Nat) (i : Int) : Int × Int := (((i.toNat / n : Nat) : Int), ((i.toNat % n : Nat) : Int))
/-- the pairs of a bit set -/
def prL (n b : Nat) : List (Int × Int) := (nodesB 64 b.testBit).map (prN n)
section
variable {n : Nat} {G : List (Int × Int)} {s : List Int} {kind : Int}
theorem prL_len (n b : Nat) : (prL n b).length = (nodesB 64 b.testBit).length := by unfold prL; rw [List.length_map]
theorem prN_inj {i j : Nat} (h : prN n (i : Int) = prN n (j : Int)) : i = j := by
  unfold prN at h
  injection h with h1 h2
  rw [Int.toNat_natCast, Int.toNat_natCast] at h1 h2
  have h1 := Int.ofNat_inj.1 h1
  have h2 := Int.ofNat_inj.1 h2
  rw [← Nat.div_add_mod i n, ← Nat.div_add_mod j n, h1, h2]
theorem prL_nodup (b : Nat) : (prL n b).Nodup := by
  unfold prL
  refine List.pairwise_map.2 ((nodesB_nodup 64 b.testBit).imp_of_mem fun {x y} hx hy hne e => hne ?_)
  obtain ⟨i, _, _, rfl⟩ := mem_nodesB.1 hx
  obtain ⟨j, _, _, rfl⟩ := mem_nodesB.1 hy
  rw [prN_inj e]
theorem prL_ok (hn : 0 < n) {b : Nat} (hb : b < 2 ^ (n * n)) : ∀ p ∈ prL n b, okP n p := by
  intro p hp
  obtain ⟨x, hx, rfl⟩ := List.mem_map.1 hp
  obtain ⟨i, _, hi, rfl⟩ := mem_nodesB.1 hx
  have hlt : i < n * n := bit_lt hb hi
  unfold prN okP
  rw [Int.toNat_natCast]
  have h1 : i / n < n := Nat.div_lt_of_lt_mul hlt
  have h2 := Nat.mod_lt i hn
  generalize i / n = q at *
  generalize i % n = r at *
  show (0 : Int) ≤ (q : Int) ∧ (q : Int) < (n : Int) ∧ (0 : Int) ≤ (r : Int) ∧ (r : Int) < (n : Int)
  omega
theorem prL_of (hn : 0 < n) (hn8 : n * n ≤ 64) {P : List (Int × Int)} (hP : ∀ p ∈ P, okP n p) : ∃ b, b < 2 ^ (n * n) ∧ ∀ p, p ∈ prL n b ↔ p ∈ P := by
  obtain ⟨b, hb, h⟩ := mask_of (fun i => decide (prN n (i : Nat) ∈ P)) (n * n)
  refine ⟨b, hb, fun p => ?_⟩
  unfold prL
  rw [List.mem_map]
  constructor
  · rintro ⟨x, hx, rfl⟩
    obtain ⟨i, _, hi, rfl⟩ := mem_nodesB.1 hx
    rw [h i (bit_lt hb hi), decide_eq_true_iff] at hi
    exact hi
  · intro hp
    have ho := hP p hp
    obtain ⟨x, y⟩ := p
    unfold okP at ho
    simp only at ho
    obtain ⟨x, rfl⟩ := Int.eq_ofNat_of_zero_le ho.1
    obtain ⟨y, rfl⟩ := Int.eq_ofNat_of_zero_le ho.2.2.1
    have hx : x < n := by omega
    have hy : y < n := by omega
    have hi : x * n + y < n * n := by have := Nat.mul_le_mul_right n (show x + 1 ≤ n by omega); rw [Nat.succ_mul] at this; omega
    have he : prN n ((x * n + y : Nat) : Int) = ((x : Int), (y : Int)) := by
      unfold prN
      rw [Int.toNat_natCast, Nat.add_comm, Nat.add_mul_div_right _ _ hn, Nat.add_mul_mod_self_right, Nat.div_eq_of_lt hy, Nat.mod_eq_of_lt hy, Nat.zero_add]
    refine ⟨((x * n + y : Nat) : Int), mem_nodesB.2 ⟨x * n + y, by omega, ?_, rfl⟩, he⟩
    rw [h _ hi, he]
    exact decide_eq_true hp
theorem prL_lenP {b : Nat} {P : List (Int × Int)} (hP : P.Nodup) (h : ∀ p, p ∈ prL n b ↔ p ∈ P) : (prL n b).length = P.length :=
  ((List.perm_ext_iff_of_nodup (prL_nodup b) hP).2 h).length_eq
/-- a hopeless set is never acceptable -/
theorem hp_not {H : List (Int × Int)} (hh : hpB n s kind = true) : ¬ AccP n H s kind := by
  unfold hpB at hh
  simp only [Bool.and_eq_true, decide_eq_true_iff] at hh
  obtain ⟨rfl, rfl, h0⟩ := hh
  intro h
  obtain ⟨x, hx, _⟩ := h.2 0 (by omega) (by simp) (.inl rfl)
  cases hx
/-- the graph after the togglings of a bit set -/
def hB (n : Nat) (G : List (Int × Int)) (b : Nat) : List (Int × Int) := togsR G (prL n b)
theorem hB_eq (hv : Vld n G) (b : Nat) : hB n G b = tgL G (prL n b) := togsR_tgL hv.2 (prL_nodup b)
theorem hB_vld (hv : Vld n G) (hn : 0 < n) {b : Nat} (hb : b < 2 ^ (n * n)) : Vld n (hB n G b) := by
  rw [hB_eq hv]
  have h1 := len_of_vld hv
  have h2 : (prL n b).length ≤ 64 := by rw [prL_len]; exact nodesB_length _ _
  exact tgL_vld hv (tgE_ok (prL_ok hn hb) (prL_nodup b)) (by omega)
/-- what a bit set of pairs counts, where the set is acceptable -/
def stF (n : Nat) (G : List (Int × Int)) (s : List Int) (kind : Int) (b : Nat) : Option Nat := if accR n (hB n G b) s kind = true then some (prL n b).length else none
theorem stF_min (hv : Vld n G) (hn : 0 < n) (hn8 : n * n ≤ 64) (hs : setB n s = true) (hh : hpB n s kind = false) (hk : kind = 1 ∨ kind = 2) (hl : (strC n G s kind).length ≤ 100) : minK (stF n G s kind) (2 ^ (n * n)) = ((strC n G s kind).length : Int) := by
  obtain ⟨b, hb, hm⟩ := prL_of hn hn8 (strC_ok hv.1 hs hh hk)
  have hnd := strC_nodup hv hs hh hk
  refine minK_eq hl (fun i c hi hf => ?_) hb ?_
  · unfold stF at hf
    split at hf
    · rename_i ha
      injection hf with hf
      rw [accR_iff (hB_vld hv hn hi).1 hk, hB_eq hv] at ha
      have h1 := dut_least (vld_nodup hv) ha
      rw [dutR_eq hv.1 hs hk] at h1
      unfold strC
      rw [List.length_map, ← hf]
      exact h1
    · cases hf
  · unfold stF
    have : accR n (hB n G b) s kind = true := by
      rw [accR_iff (hB_vld hv hn hb).1 hk, hB_eq hv, tgL_order (vld_nodup hv) (prL_nodup b) hnd hm]
      exact strC_acc hv hs hh hk
    rw [if_pos this, prL_lenP hnd hm]
theorem stF_none (hv : Vld n G) (hn : 0 < n) (hh : hpB n s kind = true) (hk : kind = 1 ∨ kind = 2) : minK (stF n G s kind) (2 ^ (n * n)) = 100 := minK_all fun i hi => by
  unfold stF
  rw [if_neg]
  intro ha
  rw [accR_iff (hB_vld hv hn hi).1 hk] at ha
  exact hp_not hh ha
/-- what a bit set of pairs and one of nodes count -/
def loF (n : Nat) (G : List (Int × Int)) (s : List Int) (kind : Int) (k : Nat) : Option Nat :=
  if insideB s (nodesB 64 (k % 2 ^ n).testBit) = true ∧ accR n (hB n G (k / 2 ^ n)) (nodesB 64 (k % 2 ^ n).testBit) kind = true then some (prL n (k / 2 ^ n)).length else none
theorem nodes64 (hn : n ≤ 40) {m : Nat} (hm : m < 2 ^ n) : nodesB 64 m.testBit = nodesB n m.testBit := by
  unfold nodesB
  congr 1
  obtain ⟨d, hd⟩ : ∃ d, 64 = n + d := ⟨64 - n, by omega⟩
  rw [hd, List.range_add, List.filter_append]
  rw [show List.filter m.testBit ((List.range d).map (n + ·)) = [] from ?_, List.append_nil]
  rw [List.filter_eq_nil_iff]
  intro a ha h
  obtain ⟨j, _, rfl⟩ := List.mem_map.1 ha
  have := bit_lt hm h
  omega
theorem nodes64_set (hn : n ≤ 40) {m : Nat} (hm : m < 2 ^ n) : setB n (nodesB 64 m.testBit) = true := by rw [nodes64 hn hm]; exact setB_nodes _ _
theorem loF_min (hv : Vld n G) (hn : 0 < n) (hn8 : n * n ≤ 64) (hs : setB n s = true) (hk : kind = 1 ∨ kind = 2) (hl : (strC n G (loS n G s kind) kind).length ≤ 100) : minK (loF n G s kind) (2 ^ (n * n) * 2 ^ n) = ((strC n G (loS n G s kind) kind).length : Int) := by
  obtain ⟨h1, h2, h3, h4⟩ := loS_ok (n := n) (G := G) (s := s) (kind := kind) hs
  have hn40 := hv.1.1
  have hp2 : 0 < 2 ^ n := Nat.two_pow_pos n
  generalize loS n G s kind = t at *
  obtain ⟨b, hb, hm⟩ := prL_of hn hn8 (strC_ok hv.1 h1 h3 hk)
  have hnd := strC_nodup hv h1 h3 hk
  have hmt := (setB_mask hn40 h1).2
  have hdiv : (b * 2 ^ n + maskN t) / 2 ^ n = b := by rw [Nat.add_comm, Nat.add_mul_div_right _ _ hp2, Nat.div_eq_of_lt hmt, Nat.zero_add]
  have hmod : (b * 2 ^ n + maskN t) % 2 ^ n = maskN t := by rw [Nat.add_comm, Nat.add_mul_mod_self_right, Nat.mod_eq_of_lt hmt]
  have htn : nodesB 64 (maskN t).testBit = t := by rw [nodes64 hn40 hmt]; exact set_nodes h1
  refine minK_eq hl (fun i c hi hf => ?_) (i := b * 2 ^ n + maskN t) ?_ ?_
  · unfold loF at hf
    split at hf
    · rename_i ha
      injection hf with hf
      have hbi : i / 2 ^ n < 2 ^ (n * n) := Nat.div_lt_of_lt_mul (by rw [Nat.mul_comm]; exact hi)
      have hset := nodes64_set hn40 (Nat.mod_lt i hp2)
      generalize nodesB 64 (i % 2 ^ n).testBit = u at *
      obtain ⟨ha1, ha2⟩ := ha
      rw [accR_iff (hB_vld hv hn hbi).1 hk, hB_eq hv] at ha2
      have h5 := dut_least (vld_nodup hv) ha2
      rw [dutR_eq hv.1 hset hk] at h5
      have hsu : ∀ x ∈ s, x ∈ u := fun x hx => (inB_iff _ _).1 (by unfold insideB at ha1; exact List.all_eq_true.1 ha1 x hx)
      have h6 : hpB n u kind = false := by
        cases hx : hpB n u kind
        · rfl
        · exact absurd ha2 (hp_not hx)
      have h7 := (h4 u hset hsu).resolve_left (by rw [h6]; decide)
      unfold strC
      rw [List.length_map, ← hf]
      exact Nat.le_trans h7 h5
    · cases hf
  · have := Nat.mul_le_mul_right (2 ^ n) (show b + 1 ≤ 2 ^ (n * n) from hb)
    rw [Nat.succ_mul] at this
    omega
  · unfold loF
    rw [hdiv, hmod, htn]
    have : accR n (hB n G b) t kind = true := by
      rw [accR_iff (hB_vld hv hn hb).1 hk, hB_eq hv, tgL_order (vld_nodup hv) (prL_nodup b) hnd hm]
      exact strC_acc hv h1 h3 hk
    rw [if_pos ⟨inside_sub h2, this⟩, prL_lenP hnd hm]
end
end Go.Proofs.YtncimnfhfomddaaDoor
