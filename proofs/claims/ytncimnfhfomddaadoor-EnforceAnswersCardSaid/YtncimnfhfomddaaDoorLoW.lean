import Derived.Test.YtncimnfhfomddaaDoorLoP
import Derived.Test.YtncimnfhfomddaaDoorStkW
import Derived.Test.YtncimnfhfomddaaDoorNpW
/- enforce.Loose. -/
namespace Go.Proofs.YtncimnfhfomddaaDoor
open Go.ChangeShapes Go.WideShapes Go.ChangeAt Go.RowKit

theorem run_fieldNt (x y z : Value) (w : World) : (Instr.field 97 (.agg #[x, y, z]) 0).run Tryd.prog w = .ok x w := by
  unfold Instr.field
  go_simp
  simp [asAgg]
/-- the first of three that isn't 0 -/
def or3I (x y z : Int) : Int := if x ≠ 0 then x else if y ≠ 0 then y else z
set_option maxHeartbeats 1000000 in
theorem or3_any (A : Option Addr) (x y z : Int) (c : Nat) (w : World) (hr : RI w A [x, y, z]) : Calls Tryd.prog 67 #[.slice A 3 c] w (Ret (.int .i64 (or3I x y z)) w) := by
  obtain ⟨b, o, rfl, hc0⟩ := hr.at_ (k := 0) (by simp)
  obtain ⟨b', o', hA, hc1⟩ := hr.at_ (k := 1) (by simp)
  obtain ⟨b2, o2, hA2, hc2⟩ := hr.at_ (k := 2) (by simp)
  injection hA with hA
  injection hA with hb ho
  subst hb ho
  injection hA2 with hA2
  injection hA2 with hb ho
  subst hb ho
  have hd0 : w.cell? ⟨b, o, none⟩ = some (.int .i64 x) := hc0
  have hd1 : w.cell? ⟨b, o + 1, none⟩ = some (.int .i64 y) := hc1
  have hd2 : w.cell? ⟨b, o + 2, none⟩ = some (.int .i64 z) := hc2
  clear hc0 hc1 hc2 hr
  go_enter Tryd.func67, Tryd.ntmps67
  go_wp2
  go_loop [8] (fun i => ∃ k : Nat, i = .int .i64 k ∧ (k = 0 ∨ (k = 1 ∧ x = 0) ∨ (k = 2 ∧ x = 0 ∧ y = 0) ∨ (k = 3 ∧ x = 0 ∧ y = 0 ∧ z = 0))) (fun i => 3 - (intOf i).toNat)
  case atStart => exact ⟨0, rfl, .inl rfl⟩
  case round =>
    obtain ⟨k, rfl, hk⟩ := hrel
    rcases hk with rfl | ⟨rfl, h0⟩ | ⟨rfl, h0, h1⟩ | ⟨rfl, h0, h1, h2⟩
    · by_cases hx : x = 0
      · have hd : (x != 0) = false := by simpa using hx
        have Hx := Lib.hid hx; clear hx
        go_wp2
        go_round
        case rel => exact ⟨1, rfl, .inr (.inl ⟨rfl, Hx.out⟩)⟩
        case measure => simp [intOf]
      · have hd : (x != 0) = true := by simpa using hx
        have Hx := Lib.hid hx; clear hx
        go_wp2
        go_ret
        exact ⟨ri (by unfold or3I; rw [if_pos Hx.out]), rfl⟩
    · have H0 := Lib.hid h0; clear h0
      by_cases hx : y = 0
      · have hd : (y != 0) = false := by simpa using hx
        have Hx := Lib.hid hx; clear hx
        go_wp2
        go_round
        case rel => exact ⟨2, rfl, .inr (.inr (.inl ⟨rfl, H0.out, Hx.out⟩))⟩
        case measure => simp [intOf]
      · have hd : (y != 0) = true := by simpa using hx
        have Hx := Lib.hid hx; clear hx
        go_wp2
        go_ret
        exact ⟨ri (by unfold or3I; rw [if_neg (fun h => h H0.out), if_pos Hx.out]), rfl⟩
    · have H0 := Lib.hid h0; have H1 := Lib.hid h1; clear h0 h1
      by_cases hx : z = 0
      · have hd : (z != 0) = false := by simpa using hx
        have Hx := Lib.hid hx; clear hx
        go_wp2
        go_round
        case rel => exact ⟨3, rfl, .inr (.inr (.inr ⟨rfl, H0.out, H1.out, Hx.out⟩))⟩
        case measure => simp [intOf]
      · have hd : (z != 0) = true := by simpa using hx
        have Hx := Lib.hid hx; clear hx
        go_wp2
        go_ret
        exact ⟨ri (by unfold or3I; rw [if_neg (fun h => h H0.out), if_neg (fun h => h H1.out)]), rfl⟩
    · have H := Lib.hid (And.intro h0 (And.intro h1 h2)); clear h0 h1 h2
      go_wp2
      go_ret
      exact ⟨ri (by unfold or3I; rw [if_neg (fun h => h H.out.1), if_neg (fun h => h H.out.2.1), H.out.2.2]), rfl⟩
theorem new_ri3' (w : World) (x y z : Int) (t : TypeId) : RI (w.alloc (.cells #[.int .i64 x, .int .i64 y, .int .i64 z] t)) (some ⟨w.heap.size, 0, none⟩) [x, y, z] := fun k hk => by
  have h := Blk.new w t #[.int .i64 x, .int .i64 y, .int .i64 z]
  match k, hk with
  | 0, _ => exact ⟨w.heap.size, 0, rfl, h.cell 0⟩
  | 1, _ => exact ⟨w.heap.size, 0, rfl, h.cell 1⟩
  | 2, _ => exact ⟨w.heap.size, 0, rfl, h.cell 2⟩
/-- the comparison of enforce.Loose -/
theorem or3_bet {n : Nat} {G : List (Int × Int)} {kind : Int} {a b : List Int} : decide (or3I (cmpI (dutL n G a kind).length (dutL n G b kind).length) (cmpI a.length b.length) (cmpLs a b) < 0) = betB n G kind a b := by
  unfold betB or3I cmpI
  by_cases h1 : (dutL n G a kind).length < (dutL n G b kind).length
  · simp [h1]
  · by_cases h2 : (dutL n G b kind).length < (dutL n G a kind).length
    · have h3 : ¬ (dutL n G a kind).length = (dutL n G b kind).length := by omega
      simp [h1, h2, h3]
    · have h3 : (dutL n G a kind).length = (dutL n G b kind).length := by omega
      by_cases h4 : a.length < b.length
      · simp [h3, h4]
      · by_cases h5 : b.length < a.length
        · have h6 : ¬ a.length = b.length := by omega
          simp [h3, h4, h5, h6]
        · have h6 : a.length = b.length := by omega
          simp [h3, h6]
/-- the mask of a set, as it is built -/
def inK (s R : List Int) (k j : Nat) : Nat := (List.range j).foldl (fun z i => if k.testBit i = true then z ||| 1 <<< (R.getD i 0).toNat else z) (maskN s)
theorem inK_succ (s R : List Int) (k j : Nat) : inK s R k (j + 1) = if k.testBit j = true then inK s R k j ||| 1 <<< (R.getD j 0).toNat else inK s R k j := by
  unfold inK; rw [List.range_succ, List.foldl_append]; rfl
theorem bit_inK {s R : List Int} {k j a : Nat} : (inK s R k j).testBit a = ((maskN s).testBit a || (List.range j).any fun i => k.testBit i && decide ((R.getD i 0).toNat = a)) := by
  induction j with
  | zero => simp [inK]
  | succ j ih =>
    rw [inK_succ, List.range_succ, List.any_append]
    cases h : k.testBit j
    · rw [if_neg (by decide), ih]; simp [h]
    · rw [if_pos rfl, Nat.testBit_or, ih, Bool.or_assoc]
      congr 1
      rw [Nat.one_shiftLeft, Nat.testBit_two_pow]
      simp [h]
theorem inK_can {n : Nat} {s : List Int} (hn : n ≤ 40) (hs : setB n s = true) (k : Nat) : nodesB 64 (inK s (rstL n s) k (rstL n s).length).testBit = canL n s k := by
  have hrs : ∀ i, i < (rstL n s).length → ∃ b : Nat, (rstL n s).getD i 0 = (b : Int) ∧ b < n := fun i hi => by
    obtain ⟨b, h1, h2, _⟩ := rst_mem.1 (List.getElem_mem hi)
    exact ⟨b, by simp [List.getD, hi, h2], h1⟩
  have hm := (setB_mask hn hs).2
  unfold canL
  rw [show nodesB 64 (inK s (rstL n s) k (rstL n s).length).testBit = nodesB n (inK s (rstL n s) k (rstL n s).length).testBit from ?_]
  · unfold nodesB
    congr 1
    refine List.filter_congr fun a ha => ?_
    rw [bit_inK, inB_maskN hs]
    congr 1
    rw [Bool.eq_iff_iff, List.any_eq_true, List.any_eq_true]
    constructor
    · rintro ⟨i, hi, h⟩
      obtain ⟨b, hb, _⟩ := hrs i (List.mem_range.1 hi)
      rw [Bool.and_eq_true, decide_eq_true_iff] at h
      refine ⟨i, hi, ?_⟩
      rw [Bool.and_eq_true, decide_eq_true_iff]
      rw [hb] at h ⊢
      exact ⟨by have := h.2; omega, h.1⟩
    · rintro ⟨i, hi, h⟩
      rw [Bool.and_eq_true, decide_eq_true_iff] at h
      refine ⟨i, hi, ?_⟩
      rw [Bool.and_eq_true, decide_eq_true_iff, h.1]
      exact ⟨h.2, by simp⟩
  · have hlt : ∀ a, (inK s (rstL n s) k (rstL n s).length).testBit a = true → a < n := fun a h => by
      rw [bit_inK, Bool.or_eq_true, List.any_eq_true] at h
      rcases h with h | ⟨i, hi, h⟩
      · exact bit_lt hm h
      · obtain ⟨b, hb, hbn⟩ := hrs i (List.mem_range.1 hi)
        rw [Bool.and_eq_true, decide_eq_true_iff, hb] at h
        have := h.2
        omega
    generalize (inK s (rstL n s) k (rstL n s).length) = z at *
    unfold nodesB
    congr 1
    obtain ⟨d, hd⟩ : ∃ d, 64 = n + d := ⟨64 - n, by omega⟩
    rw [hd, List.range_add, List.filter_append]
    rw [show List.filter z.testBit ((List.range d).map (n + ·)) = [] from ?_, List.append_nil]
    rw [List.filter_eq_nil_iff]
    intro a ha h
    obtain ⟨j, _, rfl⟩ := List.mem_map.1 ha
    have := hlt _ h
    omega
theorem rst_minus {n : Nat} {s : List Int} (hn : n ≤ 40) (hs : setB n s = true) : nodesB 64 (minusN (allN n) (maskN s)).testBit = rstL n s := by
  have hm := (setB_mask hn hs).2
  have hb : ∀ a, (minusN (allN n) (maskN s)).testBit a = (decide (a < n) && !inB s (a : Int)) := fun a => by
    rw [testBit_minusN _ _ _ (u64_of hn hm) (u64_of hn (allN_lt n)), testBit_allN, inB_maskN hs]
  unfold rstL nodesB
  congr 1
  obtain ⟨d, hd⟩ : ∃ d, 64 = n + d := ⟨64 - n, by omega⟩
  rw [hd, List.range_add, List.filter_append]
  rw [show List.filter (minusN (allN n) (maskN s)).testBit ((List.range d).map (n + ·)) = [] from ?_, List.append_nil]
  · refine List.filter_congr fun a ha => ?_
    rw [hb, decide_eq_true (List.mem_range.1 ha), Bool.true_and]
  · rw [List.filter_eq_nil_iff]
    intro a ha h
    obtain ⟨j, _, rfl⟩ := List.mem_map.1 ha
    rw [hb, decide_eq_false (by omega)] at h
    cases h
theorem inK_lt {n : Nat} {s : List Int} (hn : n ≤ 40) (hs : setB n s = true) (k j : Nat) (hj : j ≤ (rstL n s).length) : inK s (rstL n s) k j < 2 ^ n := by
  induction j with
  | zero => exact (setB_mask hn hs).2
  | succ j ih =>
    rw [inK_succ]
    split
    · refine Nat.or_lt_two_pow (ih (by omega)) ?_
      obtain ⟨b, h1, h2, _⟩ := rst_mem.1 (List.getElem_mem (l := rstL n s) (n := j) (by omega))
      have : (rstL n s).getD j 0 = (b : Int) := by simp [List.getD, show j < (rstL n s).length by omega, h2]
      rw [this, Int.toNat_natCast, Nat.one_shiftLeft]
      exact Nat.pow_lt_pow_right (by omega) h1
    · exact ih (by omega)
/-- the error of Loose -/
def loErr (N : Int) (G : List (Int × Int)) (s : List Int) (kind : Int) : Int := if arE N G s kind = 0 then if 10 < (rstL N.toNat s).length then 2 else 0 else arE N G s kind
/-- the set that Loose finds -/
def loS (n : Nat) (G : List (Int × Int)) (s : List Int) (kind : Int) : List Int := (lstK n G s kind (2 ^ (rstL n s).length)).getD []
theorem loS_some {n : Nat} {G : List (Int × Int)} {s : List Int} {kind : Int} (hs : setB n s = true) : lstK n G s kind (2 ^ (rstL n s).length) = some (loS n G s kind) := by
  obtain ⟨b, h, _⟩ := lst_some (n := n) (G := G) (s := s) (kind := kind) hs
  unfold loS
  rw [h]; rfl
/-- Loose's answer -/
def RetEo (N : Int) (G : List (Int × Int)) (s : List Int) (kind : Int) (w : World) : Ending → World → Prop := fun e w' => Below w.heap.size w w' ∧
  ((loErr N G s kind ≠ 0 ∧ e = .returned (.tuple #[.agg #[.slice none 0 0, .slice none 0 0, .slice none 0 0], .int .i64 (loErr N G s kind)])) ∨
   (loErr N G s kind = 0 ∧ ∃ AC cC AH cH AD cD, e = .returned (.tuple #[.agg #[.slice AC (loS N.toNat G s kind).length cC, .slice AH (strC N.toNat G (loS N.toNat G s kind) kind).length cH, .slice AD (dutL N.toNat G (loS N.toNat G s kind) kind).length cD], .int .i64 0]) ∧
     RI w' AC (loS N.toNat G s kind) ∧ RP w' AH (strC N.toNat G (loS N.toNat G s kind) kind) ∧ RTo w' AD (dutL N.toNat G (loS N.toNat G s kind) kind)))
/-- the best so far, in memory -/
def BestM (n : Nat) (G : List (Int × Int)) (kind : Int) (w : World) (v u : Value) (o : Option (List Int)) : Prop :=
  match o with
  | none => v = .slice none 0 0 ∧ u = .int .i64 (-1)
  | some b => ∃ A c, v = .slice A b.length c ∧ u = .int .i64 ((dutL n G b kind).length : Nat) ∧ RI w A b ∧ (A = none → b = [] ∧ c = 0) ∧ setB n b = true ∧ hpB n b kind = false
theorem BestM.below {n : Nat} {G : List (Int × Int)} {kind : Int} {w w' : World} {v u : Value} {o : Option (List Int)} (h : BestM n G kind w v u o) (hb : Below w.heap.size w w') : BestM n G kind w' v u o := by
  cases o with
  | none => exact h
  | some b => obtain ⟨A, c, h1, h2, h3, h4⟩ := h; exact ⟨A, c, h1, h2, h3.below hb, h4⟩
set_option maxRecDepth 100000 in
set_option maxHeartbeats 8000000 in
theorem enLoose_any (A : Option Addr) (N : Int) (G : List (Int × Int)) (c : Nat) (Bs : Option Addr) (s : List Int) (cs : Nat) (kind : Int) (w : World) (hr : RP w A G) (hl : G.length ≤ 100000) (hs : RI w Bs s) (hls : s.length ≤ 100000) (hT : Tab w) :
    Calls Tryd.prog 28 #[.agg #[.int .i64 N, .slice A G.length c], .slice Bs s.length cs, .int .i64 kind] w (RetEo N G s kind w) := by
  go_enter Tryd.func28, Tryd.ntmps28
  go_upto_region 1 with fail
  obtain ⟨W0, hW, k0, hb0, hs0⟩ := boxG w N A G.length c
  rw [hW]
  obtain ⟨W1, hW1, k1, hb1, hs1'⟩ := boxE W0
  rw [hW1]
  have hb01 := endB hb0 hb1
  have k01 := k0.below hb1 k0.lt
  rw [hs0] at k1
  clear hW hW1 k0 hb0 hb1 hs0 hs1'
  obtain ⟨d0, d1, _, _⟩ := k01.two
  go_wp2_with fail
  refine (enArg_any A N G c Bs s cs kind W1 (hr.below hb01) hl (hs.below hb01) hls).mono ?_
  rintro e w2 ⟨rfl, hb2⟩
  have hbb2 := endB hb01 hb2
  have k12 := k1.below hb2 k1.lt
  have k02 := k01.below hb2 k01.lt
  clear d0 d1 k01 k1 hb01 hb2
  obtain ⟨d0, d1, _, _⟩ := k02.two
  by_cases ha : arE N G s kind = 0
  case neg =>
    have he : loErr N G s kind = arE N G s kind := by unfold loErr; rw [if_neg ha]
    have hd : (arE N G s kind != 0) = true := by simp [ha]
    obtain ⟨Y, hY, hbY, e0, e1, e2⟩ := en_put (.slice none 0 0) (.slice none 0 0) (.slice none 0 0) k12 hbb2
    rw [← hY] at e0 e1 e2
    have HbY := Lib.hid hbY
    rw [← hY] at HbY
    clear hY hbY
    obtain ⟨y0, y1, y2, _, _⟩ := k12.threeE
    have z0 := k12.frozen 0
    go_wp2_with fail
    refine bodyPost_ret (v := .tuple #[.agg #[.slice none 0 0, .slice none 0 0, .slice none 0 0], .int .i64 (arE N G s kind)]) (by simp only [results, Tryd.results28]; simp [go_sem, e0, e1, e2]) rfl ?_
    exact ⟨HbY.out, .inl ⟨by rw [he]; exact ha, by rw [he]⟩⟩
  have hd : (arE N G s kind != 0) = false := by simp [ha]
  obtain ⟨hv0, hk, hsb⟩ := arE_ok ha
  obtain ⟨n, rfl, hv⟩ := vld_of_valE hv0 hl
  have hn40 := hv.1.1
  obtain ⟨hsr, hm⟩ := setB_mask hn40 hsb
  have hmu := u64_of hn40 hm
  have hof := enOf_any Bs s cs w2 (hs.below hbb2) hls hsr
  have hle : loErr n G s kind = if 10 < (rstL n s).length then 2 else 0 := by unfold loErr; rw [if_pos ha, Int.toNat_natCast]
  have hrl := rst_len (n := n) (s := s)
  have Hof := Lib.hid hof; have Hv := Lib.hid hv; have Hk := Lib.hid hk; have Hsb := Lib.hid hsb; have Hle := Lib.hid hle; have Hm := Lib.hid hm
  have hfld := run_fieldNt
  clear hof hv hk hsb hv0 hle ha hm hsr
  go_wp2_with fail
  refine Hof.out.mono ?_
  rintro e w3 ⟨rfl, rfl⟩
  go_wp2_with fail
  refine (netNew_any A n G c w2 (hr.below hbb2) Hv.out.1).mono ?_
  rintro e w3 ⟨gB, gO, rfl, _, _, _, _, hb3⟩
  have hbb3 := endB hbb2 hb3
  have k13 := k12.below hb3 k12.lt
  have k03 := k02.below hb3 k02.lt
  have e1 := u64_minus (allN n) (maskN s) (u64_of hn40 (allN_lt n)) hmu
  have hmz : minusN (allN n) (maskN s) < 18446744073709551616 := Nat.lt_of_le_of_lt (minusN_le _ _) (u64_of hn40 (allN_lt n))
  have hls2 := netList_any (minusN (allN n) (maskN s)) hmz w3 (hT.below hbb3)
  rw [rst_minus hn40 Hsb.out] at hls2
  obtain ⟨R, hR⟩ : ∃ R, rstL n s = R := ⟨_, rfl⟩
  have hle := Hle.out
  rw [hR] at hls2 hrl hle
  have Hls := Lib.hid hls2; have Hle := Lib.hid hle; have HR := Lib.hid hR
  clear hls2 hle hR d0 d1 hbb2 hb3 k12 k02 hmz
  go_wp2_with fail
  refine Hls.out.mono ?_
  rintro e w4 ⟨AR, cR, rfl, hro, hrr, hrn, hb4⟩
  clear e1 hfld
  have hbb4 := endB hbb3 hb4
  have k14 := k13.below hb4 k13.lt
  have k04 := k03.below hb4 k03.lt
  clear hbb3 hb4 k13 k03 hro hrn
  by_cases h10 : 10 < R.length
  case pos =>
    have hd10 : decide ((10 : Int) < (R.length : Int)) = true := decide_eq_true (by omega)
    have hle := Hle.out
    rw [if_pos h10] at hle
    have Hle := Lib.hid hle
    obtain ⟨Y, hY, hbY, e0, e1, e2⟩ := en_put (.slice none 0 0) (.slice none 0 0) (.slice none 0 0) k14 hbb4
    rw [← hY] at e0 e1 e2
    have HbY := Lib.hid hbY
    rw [← hY] at HbY
    clear hY hbY hle h10
    obtain ⟨y0, y1, y2, _, _⟩ := k14.threeE
    have z0 := k14.frozen 0
    go_wp2_with fail
    refine bodyPost_ret (v := .tuple #[.agg #[.slice none 0 0, .slice none 0 0, .slice none 0 0], .int .i64 2]) (by simp only [results, Tryd.results28]; simp [go_sem, e0, e1, e2]) rfl ?_
    exact ⟨HbY.out, .inl ⟨by rw [Hle.out]; decide, by rw [Hle.out]⟩⟩
  have hd10 : decide ((10 : Int) < (R.length : Int)) = false := decide_eq_false (by omega)
  have hle := Hle.out
  rw [if_neg h10] at hle
  have Hle := Lib.hid hle
  obtain ⟨E, hE⟩ : ∃ E : Nat, E = 2 ^ R.length := ⟨_, rfl⟩
  have hp : 2 ^ R.length ≤ 1024 := Nat.pow_le_pow_right (n := 2) (by omega) (by omega : R.length ≤ 10)
  have e0 : IntKind.u64.wrap (R.length : Int) = (R.length : Int) := by rw [IntKind.wrap_u64]; omega
  have e1 : wrap64 (2 ^ R.length) = (E : Int) := by
    rw [hE, show ((2 : Int) ^ R.length) = ((2 ^ R.length : Nat) : Int) by simp]; unfold wrap64; omega
  rw [← hE] at hp
  have HE := Lib.hid hE
  have hRl : R.length ≤ 10 := by omega
  clear hE hle h10
  go_wp2_with fail
  rw [e1]
  clear e0 e1 hd10
  go_loopw [11, 12, 42] (fun v u i wr => ∃ k : Nat, k ≤ E ∧ i = .int .i64 (k : Int) ∧ BestM n G kind wr v u (lstK n G s kind k) ∧ Below w4.heap.size w4 wr) (fun _ _ i _ => E - (intOf i).toNat)
  case atStart => exact ⟨0, Nat.zero_le _, rfl, ⟨rfl, rfl⟩, Below.refl _ _⟩
  case round =>
    obtain ⟨k, hk, rfl, hbm, hbw⟩ := hrel
    have Hbm := Lib.hid hbm
    have hbW := endB hbb4 hbw
    have k0 := k04.below hbw k04.lt
    have k1 := k14.below hbw k14.lt
    obtain ⟨d0, d1, _, _⟩ := k0.two
    by_cases hlt : k < E
    case pos =>
      have hkl : k ≤ 1024 := by omega
      clear hbm
      go_wp2_with fail
      obtain ⟨wo, hwo⟩ : ∃ wo, wo = wr := ⟨_, rfl⟩
      subst hwo
      have hrro := hrr.below hbw
      go_loopw [14, 48] (fun z i wx => ∃ j : Nat, j ≤ R.length ∧ i = .int .i64 (j : Int) ∧ z = .int .u64 ((inK s R k j : Nat) : Int) ∧ wx = wo) (fun _ i _ => R.length - (intOf i).toNat)
      case atStart => exact ⟨0, Nat.zero_le _, rfl, rfl, rfl⟩
      case round =>
        obtain ⟨j, hj, rfl, rfl, rfl⟩ := hrel
        by_cases hjl : j < R.length
        case pos =>
          obtain ⟨b, o, hAR, hcell⟩ := hrro.at_ hjl
          have hzl := inK_lt hn40 Hsb.out k j (by rw [HR.out]; exact hj)
          rw [HR.out] at hzl
          have hzu := u64_of hn40 hzl
          obtain ⟨a, ha1, ha2, _⟩ := rst_mem.1 (by rw [HR.out]; exact List.getElem_mem hjl : R[j] ∈ rstL n s)
          have hRg : R.getD j 0 = (a : Int) := by simp [List.getD, hjl, ha2]
          have hstp := inK_succ s R k j
          rw [hRg, Int.toNat_natCast] at hstp
          rw [ha2] at hcell
          have e2 : IntKind.u64.wrap (j : Int) = (j : Int) := by rw [IntKind.wrap_u64]; omega
          have hbit := bit_of_shr k j
          have hwith := netWith_any (inK s R k j) a hzu (by omega)
          obtain ⟨z, hz⟩ : ∃ z, inK s R k j = z := ⟨_, rfl⟩
          rw [hz] at hstp hwith
          rw [hz]
          have Hwith := Lib.hid hwith; have Hstp := Lib.hid hstp
          subst hAR
          clear hwith hstp hRg ha1 ha2 hzl hz hzu
          cases hb : k.testBit j
          case true =>
            rw [hb] at hbit
            have hst := Hstp.out
            rw [if_pos hb] at hst
            have Hst := Lib.hid hst
            clear hst hb
            go_wp2_with fail
            refine (Hwith.out _).mono ?_
            rintro e w' ⟨rfl, rfl⟩
            go_wp2_with fail
            go_roundw
            case rel => exact ⟨j + 1, hjl, by go_num, by rw [Hst.out], trivial⟩
            case measure => simp [intOf]; omega
          case false =>
            rw [hb] at hbit
            have hst := Hstp.out
            rw [if_neg (by rw [hb]; decide)] at hst
            have Hst := Lib.hid hst
            clear hst hb
            go_wp2_with fail
            go_roundw
            case rel => exact ⟨j + 1, hjl, by go_num, by rw [Hst.out], trivial⟩
            case measure => simp [intOf]; omega
        case neg =>
          obtain rfl : j = R.length := by omega
          have hzl := inK_lt hn40 Hsb.out k R.length (by rw [HR.out]; exact Nat.le_refl _)
          rw [HR.out] at hzl
          have hcan := inK_can hn40 Hsb.out k
          rw [HR.out] at hcan
          have hls := netList_any (inK s R k R.length) (u64_of hn40 hzl) wr (hT.below hbW)
          rw [hcan] at hls
          have hcs := can_set (n := n) (s := s) k
          have hstp := lstK_succ n G s kind k
          obtain ⟨t, ht⟩ : ∃ t, canL n s k = t := ⟨_, rfl⟩
          rw [ht] at hls hcs hstp
          have htl := setB_len hcs
          have Hls := Lib.hid hls; have Hcs := Lib.hid hcs; have Hstp := Lib.hid hstp
          clear hls hcs hstp ht hcan hzl hrro
          go_wp2_with fail
          refine Hls.out.mono ?_
          rintro e w5 ⟨At, ct, rfl, hot, hrt, hnt, hb5⟩
          have hbw5 := hbw.trans (hb5.mono hbw.size)
          have hbW5 := endB hbb4 hbw5
          have k05 := k0.below hb5 k0.lt
          have k15 := k1.below hb5 k1.lt
          have Hbm5 := Lib.hid (Hbm.out.below hb5)
          have hft : At = none → t = [] ∧ ct = 0 := fun e => by
            subst e
            obtain ⟨_, h2⟩ := hot
            rcases h2 with ⟨e, h0⟩ | ⟨g, cap, cur, e, _⟩
            · injection e with _ _ e3
              exact ⟨List.eq_nil_of_length_eq_zero h0, e3⟩
            · cases e
          have Hft := Lib.hid hft
          clear d0 d1 hot hnt hb5 hft
          obtain ⟨d0, d1, _, _⟩ := k05.two
          go_wp2_with fail
          refine (enHop_any A (n : Int) G c At t ct kind w5).mono ?_
          rintro e w6 ⟨rfl, hb6⟩
          have hbw6 := hbw5.trans (hb6.mono hbw5.size)
          have hbW6 := endB hbb4 hbw6
          have k06 := k05.below hb6 k05.lt
          have Hbm6 := Lib.hid (Hbm5.out.below hb6)
          have hrt6 := hrt.below hb6
          clear d0 d1
          obtain ⟨d0, d1, _, _⟩ := k06.two
          cases hh : hpB (n : Int) t kind
          case true =>
            have hst := Hstp.out
            unfold betS at hst
            rw [if_pos hh] at hst
            have Hst := Lib.hid hst
            clear hst hh
            go_wp2_with fail
            go_roundw
            case rel => exact ⟨k + 1, hlt, by go_num, by rw [Hst.out]; exact Hbm6.out, hbw6⟩
            case measure => simp [intOf]; omega
          case false =>
            have hst := Hstp.out
            unfold betS at hst
            rw [if_neg (by rw [hh]; decide)] at hst
            have hdu := duties_any A n G c At t ct kind w6 (hr.below hbW6) Hv.out hrt6 Hcs.out (hT.below hbW6) Hk.out
            have hbet := fun b => or3_bet (n := n) (G := G) (kind := kind) (a := t) (b := b)
            have hdL : (dutL n G t kind).length ≤ 200000 := by
              unfold dutL
              have h1 := dutA_len (maskN t) G
              have h3 := dutB_len n G t kind n
              unfold dutB at h3
              rw [List.length_append]
              omega
            obtain ⟨D, hD⟩ : ∃ D, dutL n G t kind = D := ⟨_, rfl⟩
            rw [hD] at hdu hdL
            have Hst := Lib.hid hst; have Hdu := Lib.hid hdu; have Hbet := Lib.hid hbet; have HD := Lib.hid hD; have Hh := Lib.hid hh
            clear hst hdu hbet hD hh
            go_wp2_with fail
            refine Hdu.out.mono ?_
            rintro e w7 ⟨AD, cD, xs, rfl, _, _, _, hb7⟩
            have hbw7 := hbw6.trans (hb7.mono hbw6.size)
            have hrt7 := hrt6.below hb7
            have hbm7 := Hbm6.out.below hb7
            have hnew : BestM n G kind w7 (.slice At t.length ct) (.int .i64 ((D.length : Nat) : Int)) (some t) := ⟨At, ct, rfl, by rw [HD.out], hrt7, Hft.out, Hcs.out, Hh.out⟩
            have Hnew := Lib.hid hnew
            clear d0 d1 hnew
            cases ho : lstK n G s kind k with
            | none =>
              rw [ho] at hbm7
              obtain ⟨rfl, rfl⟩ := hbm7
              have hst := Hst.out
              rw [ho] at hst
              have Hst := Lib.hid hst
              clear hst ho
              go_wp2_with fail
              go_roundw
              case rel => exact ⟨k + 1, hlt, by go_num, by rw [Hst.out]; exact Hnew.out, hbw7⟩
              case measure => simp [intOf]; omega
            | some b =>
              rw [ho] at hbm7
              obtain ⟨Ab, cb, rfl, rfl, hrb, hnb, hsb2, hhb⟩ := hbm7
              have hst := Hst.out
              rw [ho] at hst
              have hbl := setB_len hsb2
              have hbt := Hbet.out b
              rw [HD.out] at hbt
              obtain ⟨m, hm⟩ : ∃ m, (dutL n G b kind).length = m := ⟨_, rfl⟩
              rw [hm] at hbt
              have hold : BestM n G kind w7 (.slice Ab b.length cb) (.int .i64 ((m : Nat) : Int)) (some b) := ⟨Ab, cb, rfl, by rw [hm], hrb, hnb, hsb2, hhb⟩
              have Hold := Lib.hid hold
              obtain ⟨r, hr3⟩ : ∃ r, betB n G kind t b = r := ⟨_, rfl⟩
              rw [hr3] at hbt
              have hst : lstK n G s kind (k + 1) = if r = true then some t else some b := by rw [hst, ← hr3]
              have Hst := Lib.hid hst
              have hm0 : decide (((m : Nat) : Int) < 0) = false := decide_eq_false (by omega)
              rw [hm]
              have hcs3 := compareS_any At Ab t b ct cb w7 hrt7 hrb (by omega) (by omega)
              have hor := fun (x y z : Int) => or3_any (some ⟨w7.heap.size, 0, none⟩) x y z 3 (w7.alloc (.cells #[.int .i64 x, .int .i64 y, .int .i64 z] 3)) (new_ri3' w7 x y z _)
              have Hcs3 := Lib.hid hcs3; have Hor := Lib.hid hor
              clear hst ho hold hr3 hcs3 hor hsb2 hhb hnb hm
              go_wp2_with fail
              refine (cmpc_any _ _ w7).mono ?_
              rintro e w' ⟨rfl, rfl⟩
              go_wp2_with fail
              refine (cmpc_any _ _ w7).mono ?_
              rintro e w' ⟨rfl, rfl⟩
              go_wp2_with fail
              refine Hcs3.out.mono ?_
              rintro e w' ⟨rfl, rfl⟩
              go_wp2_with fail
              refine (Hor.out _ _ _).mono ?_
              rintro e w8 ⟨rfl, rfl⟩
              have hb8 := newB w7 (.cells #[.int .i64 (cmpI D.length m), .int .i64 (cmpI t.length b.length), .int .i64 (cmpLs t b)] 3)
              have hbw8 := hbw7.trans (hb8.mono hbw7.size)
              have Hnew8 := Lib.hid (Hnew.out.below hb8)
              have Hold8 := Lib.hid (Hold.out.below hb8)
              have Hbw8 := Lib.hid hbw8
              clear hb8 hbw8
              generalize or3I (cmpI D.length m) (cmpI t.length b.length) (cmpLs t b) = y at *
              cases r
              case false =>
                have hst := Hst.out
                rw [if_neg (by decide)] at hst
                have Hst := Lib.hid hst
                clear hst
                go_wp2_with fail
                go_roundw
                case rel => exact ⟨k + 1, hlt, by go_num, by rw [Hst.out]; exact Hold8.out, Hbw8.out⟩
                case measure => simp [intOf]; omega
              case true =>
                have hst := Hst.out
                rw [if_pos rfl] at hst
                have Hst := Lib.hid hst
                clear hst
                go_wp2_with fail
                go_roundw
                case rel => exact ⟨k + 1, hlt, by go_num, by rw [Hst.out]; exact Hnew8.out, Hbw8.out⟩
                case measure => simp [intOf]; omega
    case neg =>
      obtain rfl : k = E := by omega
      have hso := loS_some (n := n) (G := G) (s := s) (kind := kind) Hsb.out
      rw [HR.out, ← HE.out] at hso
      rw [hso] at hbm
      obtain ⟨Ab, cb, rfl, rfl, hrb, hnb, hsb2, hhb⟩ := hbm
      obtain ⟨b, hb⟩ : ∃ b, loS n G s kind = b := ⟨_, rfl⟩
      rw [hb] at hrb hnb hsb2 hhb
      rw [hb]
      have hst := strict_any A n G c Ab b cb kind wr (hr.below hbW) Hv.out hrb hnb hsb2 (hT.below hbW) Hk.out hhb
      obtain ⟨C, hC⟩ : ∃ C, strC n G b kind = C := ⟨_, rfl⟩
      obtain ⟨L, hL⟩ : ∃ L, dutL n G b kind = L := ⟨_, rfl⟩
      rw [hC, hL] at hst
      rw [hL]
      have Hst := Lib.hid hst; have HC := Lib.hid hC; have HL := Lib.hid hL; have Hb := Lib.hid hb
      clear hst hC hL hsb2 hb hso Hbm
      go_wp2_with fail
      refine Hst.out.mono ?_
      rintro e w5 ⟨AC, cC, AH, cH, AD, cD, xs, rfl, h1, h2, h3, h4, hb5⟩
      have hbb5 := endB hbW hb5
      have k15 := k1.below hb5 k1.lt
      have hg9 : ∀ a b c, w5.grownBy (((w5.setCell ⟨w.heap.size + 1, 0, none⟩ a).setCell ⟨w.heap.size + 1, 1, none⟩ b).setCell ⟨w.heap.size + 1, 2, none⟩ c) (some (w.heap.size + 1)) := fun a b c => grownBy_trans (grownBy_trans (grownBy_setCell w5 _ 0 _) (grownBy_setCell _ _ 1 _)) (grownBy_setCell _ _ 2 _)
      have hgq := hg9 (.slice AC b.length cC) (.slice AH C.length cH) (.slice AD L.length cD)
      obtain ⟨Y, hY, hbY, e0', e1', e2'⟩ := en_put (.slice AC b.length cC) (.slice AH C.length cH) (.slice AD L.length cD) k15 hbb5
      rw [hY] at hgq
      have q1 : RI Y AC b := OwnI.ri (c := cC) (World.ownsRow.kept h1 hgq (.inr (own_apart h1 k15 (by decide))))
      have q2 : RP Y AH C := OwnP.rp' (c := cH) (World.ownsRow.kept h2 hgq (.inr (own_apart h2 k15 (by decide))))
      obtain ⟨A9, c9, e9, q3, _⟩ := OwnTS.forms (World.ownsRow.kept h3 hgq (.inr (own_apart h3 k15 (by decide)))) (h4.apartB k15 (by decide) hgq)
      simp only [Value.slice.injEq, true_and] at e9
      obtain ⟨e9a, e9b⟩ := e9
      subst e9a
      subst e9b
      have H9 := Lib.hid (And.intro hbY (And.intro q1 (And.intro q2 q3)))
      rw [← hY] at e0' e1' e2' H9
      clear hY hbY q1 q2 q3 hgq hg9 h1 h2 h3 h4 d0 d1
      obtain ⟨y0, y1, y2, _, _⟩ := k15.threeE
      have z0 := k15.frozen 0
      go_wp2_with fail
      refine bodyPost_ret (v := .tuple #[.agg #[.slice AC b.length cC, .slice AH C.length cH, .slice AD L.length cD], .int .i64 0]) (by simp only [results, Tryd.results28]; simp [go_sem, e0', e1', e2']) rfl ?_
      refine ⟨H9.out.1, .inr ⟨Hle.out, AC, cC, AH, cH, AD, cD, ?_⟩⟩
      rw [Int.toNat_natCast, Hb.out, HC.out, HL.out]
      exact ⟨rfl, H9.out.2.1, H9.out.2.2.1, H9.out.2.2.2⟩
end Go.Proofs.YtncimnfhfomddaaDoor
