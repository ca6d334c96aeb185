import Derived.Test.YtncimnfhfomddaaDoorAw25
import Derived.Test.YtncimnfhfomddaaDoorGd
/- Package game: moved. -/
namespace Go.Proofs.YtncimnfhfomddaaDoor
open Go.ChangeShapes Go.WideShapes Go.ChangeAt Go.RowKit

/-- the bits of a list -/
def bitsL (l : List Nat) : Nat := l.foldl (fun m x => m ||| 1 <<< x) 0
theorem bitsL_snoc (l : List Nat) (a : Nat) : bitsL (l ++ [a]) = bitsL l ||| 1 <<< a := by unfold bitsL; rw [List.foldl_append]; rfl
theorem bitsL_lt {n : Nat} {l : List Nat} (h : ∀ x ∈ l, x < n) : bitsL l < 2 ^ n := by
  have key : ∀ (l : List Nat) (m : Nat), m < 2 ^ n → (∀ x ∈ l, x < n) → l.foldl (fun m x => m ||| 1 <<< x) m < 2 ^ n := by
    intro l
    induction l with
    | nil => intro m h _; exact h
    | cons a l ih => intro m h hx; exact ih _ (with_lt h (hx a (List.mem_cons_self ..))) fun x hx' => hx x (List.mem_cons_of_mem _ hx')
  exact key _ 0 (Nat.two_pow_pos n) h
theorem bitsL_bit (l : List Nat) (i : Nat) : (bitsL l).testBit i = l.contains i := by
  have key : ∀ (l : List Nat) (m : Nat), (l.foldl (fun m x => m ||| 1 <<< x) m).testBit i = (m.testBit i || l.contains i) := by
    intro l
    induction l with
    | nil => intro m; simp
    | cons a l ih =>
      intro m
      rw [List.foldl_cons, ih, bit_with, List.contains_cons, Bool.or_assoc]
      congr 1
  have := key l 0
  rw [Nat.zero_testBit, Bool.false_or] at this
  exact this
theorem mem_pro {x : Nat} : ∀ {l : List Nat}, x ∈ proS l → x ∈ l
  | [], h => h
  | [_], h => h
  | a :: _ :: r, h => by
    rcases List.mem_cons.1 h with e | e
    · exact List.mem_cons.2 (.inl e)
    · exact List.mem_cons_of_mem _ (List.mem_cons_of_mem _ (mem_pro e))
theorem mem_opp {x : Nat} : ∀ {l : List Nat}, x ∈ oppS l → x ∈ l
  | [], h => h
  | [_], h => absurd h (by simp [oppS])
  | _ :: b :: r, h => by
    rcases List.mem_cons.1 h with e | e
    · exact List.mem_cons_of_mem _ (List.mem_cons.2 (.inl e))
    · exact List.mem_cons_of_mem _ (List.mem_cons_of_mem _ (mem_opp e))

set_option maxRecDepth 100000 in
set_option maxHeartbeats 8000000 in
theorem gMoved_any (A : Option Addr) {n : Nat} (hn : n ≤ 40) (line : List Nat) (c : Nat) (w : World) (hr : RI w A (line.map Int.ofNat)) (hl : line.length ≤ 1000) (hx : ∀ x ∈ line, x < n) :
    Calls Tryd.prog 125 #[.slice A line.length c] w (Ret (.tuple #[.int .u64 ((bitsL (proS line) : Nat) : Int), .int .u64 ((bitsL (oppS line) : Nat) : Int)]) w) := by
  go_enter Tryd.func125, Tryd.ntmps125
  go_wp2_with fail
  go_loopw [2, 3, 8] (fun t2 t3 t8 wx => ∃ q : Nat, q ≤ line.length ∧ t2 = .int .u64 ((bitsL (proS (line.take q)) : Nat) : Int) ∧ t3 = .int .u64 ((bitsL (oppS (line.take q)) : Nat) : Int) ∧ t8 = .int .i64 (q : Int) ∧ wx = w) (fun _ _ t8 _ => line.length - (intOf t8).toNat)
  case atStart => exact ⟨0, Nat.zero_le _, rfl, rfl, rfl, rfl⟩
  case round =>
    obtain ⟨q, hq, rfl, rfl, rfl, rfl⟩ := hrel
    by_cases hqy : q < line.length
    case neg =>
      have hqe : q = line.length := by omega
      clear hq
      subst hqe
      rw [List.take_length]
      go_wp2_with fail
      go_ret2
      exact ⟨rfl, rfl⟩
    case pos =>
    obtain ⟨x, hxe⟩ : ∃ x, line[q] = x := ⟨_, rfl⟩
    have hxn : x < n := by rw [← hxe]; exact hx _ (List.getElem_mem _)
    have htk : line.take (q + 1) = line.take q ++ [x] := by rw [List.take_succ_eq_append_getElem hqy, hxe]
    have htl : (line.take q).length = q := by rw [List.length_take]; omega
    obtain ⟨bb, oo, rfl, hc⟩ := hr.at_ (k := q) (by rw [List.length_map]; exact hqy)
    rw [List.getElem_map, hxe, Int.ofNat_eq_natCast] at hc
    have hlp : bitsL (proS (line.take q)) < 2 ^ n := bitsL_lt fun y hy => hx y (List.mem_of_mem_take (mem_pro hy))
    have hlo : bitsL (oppS (line.take q)) < 2 ^ n := bitsL_lt fun y hy => hx y (List.mem_of_mem_take (mem_opp hy))
    have hwp := netWith_any (bitsL (proS (line.take q))) x (u64_of hn hlp) (by omega) wr
    have hwo := netWith_any (bitsL (oppS (line.take q))) x (u64_of hn hlo) (by omega) wr
    have hsp := proS_snoc x (line.take q)
    have hso := oppS_snoc x (line.take q)
    rw [htl] at hsp hso
    have Htk := Lib.hid htk; have Hwp := Lib.hid hwp; have Hwo := Lib.hid hwo; have Hsp := Lib.hid hsp; have Hso := Lib.hid hso
    clear htk htl hxe hlp hlo hwp hwo hsp hso
    by_cases hpar : q % 2 = 0
    · go_wp2_with fail
      refine Hwp.out.mono ?_
      rintro e w' ⟨rfl, rfl⟩
      go_wp2_with fail
      go_roundw
      case rel => exact ⟨q + 1, by omega, by rw [Htk.out, Hsp.out, if_pos hpar, bitsL_snoc], by rw [Htk.out, Hso.out, if_pos hpar], by go_num, trivial⟩
      case measure => simp [intOf]; omega
    · have hpar1 : q % 2 = 1 := by omega
      go_wp2_with fail
      refine Hwo.out.mono ?_
      rintro e w' ⟨rfl, rfl⟩
      go_wp2_with fail
      go_roundw
      case rel => exact ⟨q + 1, by omega, by rw [Htk.out, Hsp.out, if_neg hpar], by rw [Htk.out, Hso.out, if_neg hpar, bitsL_snoc], by go_num, trivial⟩
      case measure => simp [intOf]; omega
end Go.Proofs.YtncimnfhfomddaaDoor

/- Package game: legal. -/
namespace Go.Proofs.YtncimnfhfomddaaDoor
open Go.ChangeShapes Go.WideShapes Go.ChangeAt Go.RowKit

theorem lgM_of {n k m : Nat} {at_ : Nat → Nat → Bool} {line : List Nat} (h : ∀ j, m.testBit j = (decide (j < n) && lgB k at_ line j)) : m = bitsL (lgL n k at_ line) := by
  refine Nat.eq_of_testBit_eq fun j => ?_
  rw [h, bitsL_bit, Bool.eq_iff_iff, Bool.and_eq_true, decide_eq_true_iff, List.contains_iff_mem, mem_lg]
theorem by_testBit {n : Nat} {l : List (Int × Int)} (hv : InR n l) {x : Nat} (hx : x < n) (j : Nat) : ((byL n l).getD x 0).testBit j = attQ l j x := by
  rw [byL_at hx, Bool.eq_iff_iff, attQ_iff]
  exact (has_mkM (inR_flip hv) x j).trans att_flip
theorem att_dec {n : Nat} {l : List (Int × Int)} (hv : InR n l) (j x : Nat) : attQ l j x = (decide (j < n) && attQ l j x) := by
  cases h : attQ l j x
  · rw [Bool.and_false]
  · rw [decide_eq_true (att_lt hv (attQ_iff.1 h)).1]; rfl
theorem last_mem {line : List Nat} (h : line ≠ []) : line.getLastD 0 ∈ line := by
  rw [List.getLastD_eq_getLast?, List.getLast?_eq_some_getLast h]; exact List.getLast_mem h
theorem last_at {line : List Nat} (h : line ≠ []) (h1 : line.length - 1 < line.length) : line[line.length - 1] = line.getLastD 0 := by
  rw [List.getLastD_eq_getLast?, List.getLast?_eq_some_getLast h, List.getLast_eq_getElem]; rfl

set_option maxRecDepth 100000 in
set_option maxHeartbeats 8000000 in
theorem gLegal1_any {n : Nat} {l : List (Int × Int)} (hv : InR n l) (gB gO : Nat) (A : Option Addr) (line : List Nat) (c : Nat) (w : World) (hne : line ≠ []) (hx : ∀ x ∈ line, x < n) (hl : line.length ≤ 1000) (hr : RI w A (line.map Int.ofNat)) (hnr : NetR w n l (some ⟨gB, 0, none⟩) (some ⟨gO, 0, none⟩)) :
    Calls Tryd.prog 90 #[.agg #[.int .u64 ((allN n : Nat) : Int), .slice (some ⟨gB, 0, none⟩) n n, .slice (some ⟨gO, 0, none⟩) n n], .int .i64 1, .slice A line.length c] w (RetB (.int .u64 ((bitsL (lgL n 1 (attQ l) line) : Nat) : Int)) w) := by
  have hn := hv.1
  have hpos : 0 < line.length := List.length_pos_iff.2 hne
  have hlt : line.length - 1 < line.length := by omega
  have hlast := hx _ (last_mem hne)
  have hla := last_at hne hlt
  have hby := by_testBit hv hlast
  have hbyu : (byL n l).getD (line.getLastD 0) 0 < 18446744073709551616 := by rw [byL_at hlast]; exact u64_of hn (mk_pow (inR_flip hv) _)
  have hprl : bitsL (proS line) < 2 ^ n := bitsL_lt fun y hy => hx y (mem_pro hy)
  have hmv := fun W (hr : RI W A (line.map Int.ofNat)) => gMoved_any A hn line c W hr hl hx
  have hw : wrap64 ((line.length : Int) - 1) = ((line.length - 1 : Nat) : Int) := by unfold wrap64; omega
  have hw2 : IntKind.i64.wrap ((line.length : Int) - 1) = ((line.length - 1 : Nat) : Int) := by rw [IntKind.wrap_i64]; omega
  have hi0 : (0 : Int) ≤ ((line.length - 1 : Nat) : Int) := by omega
  have hi1 : ((line.length - 1 : Nat) : Int) < (line.length : Int) := by omega
  have hmin := u64_minus _ _ hbyu (u64_of hn hprl)
  have e1 : line.length % 2 = 1 → (byL n l).getD (line.getLastD 0) 0 = bitsL (lgL n 1 (attQ l) line) := fun ho => lgM_of fun j => by
    rw [hby, lg_o1 ho, ← att_dec hv]
  have e2 : line.length % 2 = 0 → minusN ((byL n l).getD (line.getLastD 0) 0) (bitsL (proS line)) = bitsL (lgL n 1 (attQ l) line) := fun ho => lgM_of fun j => by
    rw [testBit_minusN _ _ j (u64_of hn hprl) hbyu, hby, lg_p1 ho, bitsL_bit, ← Bool.and_assoc, ← att_dec hv]
  obtain ⟨x, hxe⟩ : ∃ x, line.getLastD 0 = x := ⟨_, rfl⟩
  rw [hxe] at hla hlast e1 e2 hmin
  obtain ⟨b2, o2, hB2, hc2⟩ := hnr.b x (by rw [byL_length]; exact hlast)
  injection hB2 with hB2; injection hB2 with ea eb _; subst ea; subst eb
  rw [Nat.zero_add] at hc2
  obtain ⟨bb, oo, rfl, hc⟩ := hr.at_ (k := line.length - 1) (by rw [List.length_map]; exact hlt)
  rw [List.getElem_map, hla, Int.ofNat_eq_natCast] at hc
  have hx0 : (0 : Int) ≤ (x : Int) := by omega
  have hx1 : (x : Int) < (n : Int) := by omega
  have Hmv := Lib.hid hmv; have Hmin := Lib.hid hmin; have He1 := Lib.hid e1; have He2 := Lib.hid e2; have Hpos := Lib.hid hpos
  generalize (byL n l).getD x 0 = bx at *
  clear hby hbyu hprl hmv hmin e1 e2 hla hxe hx hlast hlt hnr hpos
  go_enter Tryd.func90, Tryd.ntmps90
  go_upto_region 1 with fail
  obtain ⟨W0, hW, kn, hb0, hs0⟩ := boxedN w 97 (.int .u64 ((allN n : Nat) : Int)) (.slice (some ⟨gB, 0, none⟩) n n) (.slice (some ⟨gO, 0, none⟩) n n)
  rw [hW]
  have d1 : W0.cell? ⟨w.heap.size, 1, none⟩ = some (.slice (some ⟨gB, 0, none⟩) n n) := kn.cell 1
  have hc' := (hb0.cell (lt_of_cell hc)).trans hc
  have hc2' := (hb0.cell (lt_of_cell hc2)).trans hc2
  have hr0 := hr.below hb0
  clear hW kn hc hc2 hr
  go_wp2_with fail
  refine (Hmv.out W0 hr0).mono ?_
  rintro e w1 ⟨rfl, rfl⟩
  go_wp2_with fail
  go_quiet (fail)
  by_cases hpar : line.length % 2 = 1
  · have he := He1.out hpar
    have hbe := below_drewN hb0 nq
    have Hbe := Lib.hid hbe; have He := Lib.hid he
    clear hbe he hb0
    go_wp2_with fail
    go_ret
    rw [← He.out]
    exact ⟨rfl, Hbe.out⟩
  · have hpar0 : line.length % 2 = 0 := by omega
    have he := He2.out hpar0
    have hbe := below_drewN hb0 nq
    have Hbe := Lib.hid hbe; have He := Lib.hid he
    clear hbe he hb0
    go_wp2_with fail
    go_ret
    rw [← He.out, ← Hmin.out]
    exact ⟨rfl, Hbe.out⟩
end Go.Proofs.YtncimnfhfomddaaDoor

/- Package game: legal in the credulous game. -/
namespace Go.Proofs.YtncimnfhfomddaaDoor
open Go.ChangeShapes Go.WideShapes Go.ChangeAt Go.RowKit

theorem out_testBit {n : Nat} {l : List (Int × Int)} (hv : InR n l) {x : Nat} (hx : x < n) (j : Nat) : ((outL n l).getD x 0).testBit j = attQ l x j := by
  rw [outL_at hx, Bool.eq_iff_iff, attQ_iff]
  exact has_mkM hv x j
/-- whether a node is in no conflict with the proponent's nodes and itself -/
def okS (at_ : Nat → Nat → Bool) (line : List Nat) (x : Nat) : Bool := !at_ x x && (proS line).all fun p => !at_ x p && !at_ p x
theorem okS_bit {n : Nat} {l : List (Int × Int)} (hv : InR n l) {x : Nat} (hx : x < n) (line : List Nat) : decide (((byL n l).getD x 0 ||| (outL n l).getD x 0) &&& (bitsL (proS line) ||| 1 <<< x) = 0) = okS (attQ l) line x := by
  rw [Bool.eq_iff_iff, decide_eq_true_iff, and_zero]
  unfold okS
  rw [Bool.and_eq_true, List.all_eq_true]
  have hb : ∀ j, ((byL n l).getD x 0 ||| (outL n l).getD x 0).testBit j = (attQ l j x || attQ l x j) := fun j => by rw [Nat.testBit_or, by_testBit hv hx, out_testBit hv hx]
  have hc : ∀ j, (bitsL (proS line) ||| 1 <<< x).testBit j = ((proS line).contains j || decide (j = x)) := fun j => by rw [bit_with, bitsL_bit]
  constructor
  · intro h
    refine ⟨?_, fun p hp => ?_⟩
    · cases e : attQ l x x
      · rfl
      · have := h x (by rw [hb, e]; rfl)
        rw [hc] at this; simp at this
    · have hpc : (bitsL (proS line) ||| 1 <<< x).testBit p = true := by rw [hc, List.contains_iff_mem.2 hp]; rfl
      rw [Bool.and_eq_true, Bool.not_eq_true', Bool.not_eq_true']
      constructor
      · cases e : attQ l x p
        · rfl
        · have := h p (by rw [hb, e]; simp); rw [hpc] at this; cases this
      · cases e : attQ l p x
        · rfl
        · have := h p (by rw [hb, e]; rfl); rw [hpc] at this; cases this
  · rintro ⟨h1, h2⟩ j hj
    rw [hb, Bool.or_eq_true] at hj
    rw [hc, Bool.or_eq_false_iff]
    constructor
    · refine Bool.eq_false_iff.2 fun hm => ?_
      have := h2 j (List.contains_iff_mem.1 hm)
      rw [Bool.and_eq_true, Bool.not_eq_true', Bool.not_eq_true'] at this
      rcases hj with e | e
      · rw [this.2] at e; cases e
      · rw [this.1] at e; cases e
    · rw [decide_eq_false_iff_not]
      rintro rfl
      rw [Bool.not_eq_true'] at h1
      rcases hj with e | e <;> rw [h1] at e <;> cases e
theorem lg_p2f {n : Nat} {at_ : Nat → Nat → Bool} {line : List Nat} (h : line.length % 2 = 0) : lgL n 2 at_ line = ((List.range n).filter fun y => at_ y (line.getLastD 0)).filter (okS at_ line) := by
  unfold lgL
  rw [List.filter_filter]
  refine List.filter_congr fun a _ => ?_
  rw [lg_p2 h]
  unfold okS
  rw [Bool.and_comm]

set_option maxRecDepth 100000 in
set_option maxHeartbeats 8000000 in
theorem gLegal2_any {n : Nat} {l : List (Int × Int)} (hv : InR n l) (gB gO : Nat) (A : Option Addr) (line : List Nat) (c : Nat) (w : World) (hne : line ≠ []) (hx : ∀ x ∈ line, x < n) (hl : line.length ≤ 1000) (hr : RI w A (line.map Int.ofNat)) (hnr : NetR w n l (some ⟨gB, 0, none⟩) (some ⟨gO, 0, none⟩)) (hT : Tab w) :
    Calls Tryd.prog 90 #[.agg #[.int .u64 ((allN n : Nat) : Int), .slice (some ⟨gB, 0, none⟩) n n, .slice (some ⟨gO, 0, none⟩) n n], .int .i64 2, .slice A line.length c] w (RetB (.int .u64 ((bitsL (lgL n 2 (attQ l) line) : Nat) : Int)) w) := by
  have hn := hv.1
  have hpos : 0 < line.length := List.length_pos_iff.2 hne
  have hlt : line.length - 1 < line.length := by omega
  have hlast := hx _ (last_mem hne)
  have hla := last_at hne hlt
  have hprl : bitsL (proS line) < 2 ^ n := bitsL_lt fun y hy => hx y (mem_pro hy)
  have hopl : bitsL (oppS line) < 2 ^ n := bitsL_lt fun y hy => hx y (mem_opp hy)
  have hmv := fun W (hr : RI W A (line.map Int.ofNat)) => gMoved_any A hn line c W hr hl hx
  have hw : wrap64 ((line.length : Int) - 1) = ((line.length - 1 : Nat) : Int) := by unfold wrap64; omega
  have hw2 : IntKind.i64.wrap ((line.length : Int) - 1) = ((line.length - 1 : Nat) : Int) := by rw [IntKind.wrap_i64]; omega
  have hi0 : (0 : Int) ≤ ((line.length - 1 : Nat) : Int) := by omega
  have hi1 : ((line.length - 1 : Nat) : Int) < (line.length : Int) := by omega
  have hob := orN_lt64 hv (bitsL (proS line))
  have hmin := u64_minus _ _ hob.2 (u64_of hn hopl)
  have hfo := fun W hT hr => netFoeS_any hv hprl (some ⟨gB, 0, none⟩) (some ⟨gO, 0, none⟩) W hT hr
  have e1 : line.length % 2 = 1 → minusN (orN (byL n l) (nodesB 64 (bitsL (proS line)).testBit)) (bitsL (oppS line)) = bitsL (lgL n 2 (attQ l) line) := fun ho => lgM_of fun j => by
    rw [testBit_minusN _ _ j (u64_of hn hopl) hob.2, foe_bit hv hprl, lg_o2 ho, bitsL_bit, Bool.eq_iff_iff, Bool.and_eq_true, Bool.and_eq_true, Bool.and_eq_true, decide_eq_true_iff, foeS_iff, List.any_eq_true]
    constructor
    · rintro ⟨⟨i, hi, si, hji⟩, h2⟩
      rw [bitsL_bit] at si
      exact ⟨(att_lt hv (attQ_iff.1 hji)).1, h2, i, List.contains_iff_mem.1 si, hji⟩
    · rintro ⟨h1, h2, p, hp, hjp⟩
      exact ⟨⟨p, (att_lt hv (attQ_iff.1 hjp)).2, by rw [bitsL_bit]; exact List.contains_iff_mem.2 hp, hjp⟩, h2⟩
  obtain ⟨x, hxe⟩ : ∃ x, line.getLastD 0 = x := ⟨_, rfl⟩
  have e2 : line.length % 2 = 0 → lgL n 2 (attQ l) line = ((List.range n).filter fun y => attQ l y x).filter (okS (attQ l) line) := fun h => by rw [lg_p2f h, hxe]
  rw [hxe] at hla hlast
  have hlist := fun W hT => netList_any ((byL n l).getD x 0) (by rw [byL_at hlast]; exact u64_of hn (mk_pow (inR_flip hv) x)) W hT
  rw [by_bit hv hlast] at hlist
  obtain ⟨b2, o2, hB2, hc2⟩ := hnr.b x (by rw [byL_length]; exact hlast)
  injection hB2 with hB2; injection hB2 with ea eb _; subst ea; subst eb
  rw [Nat.zero_add] at hc2
  obtain ⟨bb, oo, rfl, hc⟩ := hr.at_ (k := line.length - 1) (by rw [List.length_map]; exact hlt)
  rw [List.getElem_map, hla, Int.ofNat_eq_natCast] at hc
  have hx0 : (0 : Int) ≤ (x : Int) := by omega
  have hx1 : (x : Int) < (n : Int) := by omega
  have hys : ∀ y ∈ (List.range n).filter (fun y => attQ l y x), y < n := fun y hy => List.mem_range.1 (List.mem_filter.1 hy).1
  have hyl : ((List.range n).filter (fun y => attQ l y x)).length ≤ 1000 := by have := List.length_filter_le (fun y => attQ l y x) (List.range n); simp at this; omega
  generalize (List.range n).filter (fun y => attQ l y x) = ys at *
  have Hmv := Lib.hid hmv; have Hmin := Lib.hid hmin; have He1 := Lib.hid e1; have He2 := Lib.hid e2; have Hpos := Lib.hid hpos; have Hfo := Lib.hid hfo; have Hlist := Lib.hid hlist; have Hys := Lib.hid hys; have Hprl := Lib.hid hprl; have Hv := Lib.hid hv
  generalize hF : orN (byL n l) (nodesB 64 (bitsL (proS line)).testBit) = F at *
  have hbx : ∃ bx, (byL n l).getD x 0 = bx := ⟨_, rfl⟩
  obtain ⟨bx, hbx⟩ := hbx
  rw [hbx] at hc2 Hlist
  clear hprl hopl hob hmv hmin e1 e2 hla hxe hx hlast hlt hpos hfo hlist hys hF hbx hv
  go_enter Tryd.func90, Tryd.ntmps90
  go_upto_region 1 with fail
  obtain ⟨W0, hW, kn, hb0, hs0⟩ := boxedN w 97 (.int .u64 ((allN n : Nat) : Int)) (.slice (some ⟨gB, 0, none⟩) n n) (.slice (some ⟨gO, 0, none⟩) n n)
  rw [hW]
  have d0 : W0.cell? ⟨w.heap.size, 0, none⟩ = some (.int .u64 ((allN n : Nat) : Int)) := kn.cell 0
  have d1 : W0.cell? ⟨w.heap.size, 1, none⟩ = some (.slice (some ⟨gB, 0, none⟩) n n) := kn.cell 1
  have d2 : W0.cell? ⟨w.heap.size, 2, none⟩ = some (.slice (some ⟨gO, 0, none⟩) n n) := kn.cell 2
  have hc' := (hb0.cell (lt_of_cell hc)).trans hc
  have hc2' := (hb0.cell (lt_of_cell hc2)).trans hc2
  have hr0 := hr.below hb0
  have hnr0 := hnr.below hb0
  have hT0 := hT.below hb0
  clear hW kn hc hc2 hr hnr hT
  go_wp2_with fail
  refine (Hmv.out W0 hr0).mono ?_
  rintro e w1 ⟨rfl, rfl⟩
  go_wp2_with fail
  go_quiet (fail)
  have hd := below_drewN (Below.refl W0.heap.size W0) nq
  have hnr1 := hnr0.below hd
  have hT1 := hT0.below hd
  have hb1 := below_drewN hb0 nq
  have f0 := (hd.cell (lt_of_cell d0)).trans d0; have f1 := (hd.cell (lt_of_cell d1)).trans d1; have f2 := (hd.cell (lt_of_cell d2)).trans d2
  obtain ⟨w2, hw2⟩ : ∃ w2, W0.drewN nq = w2 := ⟨_, rfl⟩
  rw [hw2] at hnr1 hT1 hb1 f0 f1 f2 ⊢
  clear hd d0 d1 d2 hc' hc2' hr0 hnr0 hT0 hb0 hw2
  by_cases hpar : line.length % 2 = 1
  · have He := Lib.hid (He1.out hpar)
    have Hf := Lib.hid (Hfo.out w2 hT1 hnr1)
    clear hnr1 hT1
    go_wp2_with fail
    refine Hf.out.mono ?_
    rintro e w3 ⟨rfl, hb3⟩
    have Hbe := Lib.hid (endB hb1 hb3)
    clear hb1 hb3
    go_wp2_with fail
    go_ret
    rw [← He.out, ← Hmin.out]
    exact ⟨rfl, Hbe.out⟩
  · have hpar0 : line.length % 2 = 0 := by omega
    have He := Lib.hid (He2.out hpar0)
    have Hl := Lib.hid (Hlist.out w2 hT1)
    clear hT1
    go_wp2_with fail
    refine Hl.out.mono ?_
    rintro e w3 ⟨A7, c7, rfl, hoy, -, -, hb3⟩
    have hri := hoy.ri
    rw [List.length_map]
    have hnr3 := hnr1.below hb3
    have hb13 := endB hb1 hb3
    have g1 := (hb3.cell (lt_of_cell f1)).trans f1; have g2 := (hb3.cell (lt_of_cell f2)).trans f2
    clear hoy hnr1 hb1 f0 f1 f2 Hl hb3
    go_wp2_with fail
    go_loopw [11, 56] (fun t11 t56 wx => ∃ q nd : Nat, q ≤ ys.length ∧ t11 = .int .u64 ((bitsL ((ys.take q).filter (okS (attQ l) line)) : Nat) : Int) ∧ t56 = .int .i64 (q : Int) ∧ wx = w3.drewN nd) (fun _ t56 _ => ys.length - (intOf t56).toNat)
    case atStart => exact ⟨0, 0, Nat.zero_le _, rfl, rfl, rfl⟩
    case round =>
      obtain ⟨q, nd, hq, rfl, rfl, rfl⟩ := hrel
      by_cases hqy : q < ys.length
      case neg =>
        have hqe : q = ys.length := by omega
        clear hq
        have Hbe := Lib.hid (below_drewN hb13 nd)
        subst hqe
        rw [List.take_length]
        clear hb13
        go_wp2_with fail
        go_ret
        rw [He.out]
        exact ⟨rfl, Hbe.out⟩
      case pos =>
      obtain ⟨y, hye⟩ : ∃ y, ys[q] = y := ⟨_, rfl⟩
      have hyn : y < n := by rw [← hye]; exact Hys.out _ (List.getElem_mem _)
      have htk : ys.take (q + 1) = ys.take q ++ [y] := by rw [List.take_succ_eq_append_getElem hqy, hye]
      obtain ⟨b7, o7, rfl, hc7⟩ := hri.at_ (k := q) (by rw [List.length_map]; exact hqy)
      rw [List.getElem_map, hye, Int.ofNat_eq_natCast] at hc7
      obtain ⟨b2, o2, hB2, hcb⟩ := hnr3.b y (by rw [byL_length]; exact hyn)
      injection hB2 with hB2; injection hB2 with ea eb _; subst ea; subst eb
      obtain ⟨b2, o2, hB2, hco⟩ := hnr3.o y (by rw [outL_length]; exact hyn)
      injection hB2 with hB2; injection hB2 with ea eb _; subst ea; subst eb
      rw [Nat.zero_add] at hcb hco
      have hok := okS_bit Hv.out hyn line
      have hbu : (byL n l).getD y 0 < 18446744073709551616 := by rw [byL_at hyn]; exact u64_of hn (mk_pow (inR_flip Hv.out) y)
      have hou : (outL n l).getD y 0 < 18446744073709551616 := by rw [outL_at hyn]; exact u64_of hn (mk_pow Hv.out y)
      have hwith := fun W => netWith_any (bitsL (proS line)) y (u64_of hn Hprl.out) (by omega) W
      have hwl : bitsL (proS line) ||| 1 <<< y < 18446744073709551616 := u64_of hn (with_lt Hprl.out hyn)
      generalize (byL n l).getD y 0 = m1 at *
      generalize (outL n l).getD y 0 = m2 at *
      have hor := u64_or_nat m1 m2 hbu hou
      have horl : m1 ||| m2 < 18446744073709551616 := Nat.or_lt_two_pow (n := 64) hbu hou
      have hand := u64_and_nat (m1 ||| m2) (bitsL (proS line) ||| 1 <<< y) horl hwl
      have hrl : bitsL ((ys.take q).filter (okS (attQ l) line)) < 2 ^ n := bitsL_lt fun z hz => Hys.out z (List.mem_of_mem_take (List.mem_filter.1 hz).1)
      have hwo := fun W => netWith_any (bitsL ((ys.take q).filter (okS (attQ l) line))) y (u64_of hn hrl) (by omega) W
      have hz : ((((m1 ||| m2) &&& (bitsL (proS line) ||| 1 <<< y) : Nat) : Int) == 0) = okS (attQ l) line y := by
        rw [← hok]
        by_cases e : (m1 ||| m2) &&& (bitsL (proS line) ||| 1 <<< y) = 0
        · rw [e]; simp
        · rw [decide_eq_false e, beq_eq_false_iff_ne]; omega
      have Hz := Lib.hid hz
      have Hor := Lib.hid hor; have Hand := Lib.hid hand; have Hwo := Lib.hid hwo; have Htk := Lib.hid htk; have Hok := Lib.hid hok
      have hy0 : (0 : Int) ≤ (y : Int) := by omega
      have hy1 : (y : Int) < (n : Int) := by omega
      clear hbu hou hwl hor horl hand hrl hwo hye htk hok hz
      go_wp2_with fail
      go_quiet ((refine (hwith _).mono ?_; rintro e w' ⟨rfl, rfl⟩; exact ⟨rfl, _, rfl⟩))
      rw [Hor.out, Hand.out, Hz.out]
      cases hk : okS (attQ l) line y
      · have Htk2 := Lib.hid (show (ys.take (q + 1)).filter (okS (attQ l) line) = (ys.take q).filter (okS (attQ l) line) by rw [Htk.out, List.filter_append]; simp [hk])
        clear hk
        go_wp2_with fail
        go_roundw
        case rel => exact ⟨q + 1, nd + nq, by omega, by rw [Htk2.out], by go_num, rfl⟩
        case measure => simp [intOf]; omega
      · have Htk2 := Lib.hid (show (ys.take (q + 1)).filter (okS (attQ l) line) = (ys.take q).filter (okS (attQ l) line) ++ [y] by rw [Htk.out, List.filter_append]; simp [hk])
        clear hk
        go_wp2_with fail
        refine (Hwo.out _).mono ?_
        rintro e w4 ⟨rfl, rfl⟩
        go_wp2_with fail
        go_roundw
        case rel => exact ⟨q + 1, nd + nq, by omega, by rw [Htk2.out, bitsL_snoc], by go_num, rfl⟩
        case measure => simp [intOf]; omega
end Go.Proofs.YtncimnfhfomddaaDoor

/- Package game: played. -/
namespace Go.Proofs.YtncimnfhfomddaaDoor
open Go.ChangeShapes Go.WideShapes Go.ChangeAt Go.RowKit

theorem gLegal_any {n : Nat} {l : List (Int × Int)} (hv : InR n l) (k : Nat) (hk : k = 1 ∨ k = 2) (gB gO : Nat) (A : Option Addr) (line : List Nat) (c : Nat) (w : World) (hne : line ≠ []) (hx : ∀ x ∈ line, x < n) (hl : line.length ≤ 1000) (hr : RI w A (line.map Int.ofNat)) (hnr : NetR w n l (some ⟨gB, 0, none⟩) (some ⟨gO, 0, none⟩)) (hT : Tab w) :
    Calls Tryd.prog 90 #[.agg #[.int .u64 ((allN n : Nat) : Int), .slice (some ⟨gB, 0, none⟩) n n, .slice (some ⟨gO, 0, none⟩) n n], .int .i64 (k : Int), .slice A line.length c] w (RetB (.int .u64 ((bitsL (lgL n k (attQ l) line) : Nat) : Int)) w) := by
  rcases hk with rfl | rfl
  · exact gLegal1_any hv gB gO A line c w hne hx hl hr hnr
  · exact gLegal2_any hv gB gO A line c w hne hx hl hr hnr hT
theorem RI.takeM {w : World} {A : Option Addr} {l : List Nat} (h : RI w A (l.map Int.ofNat)) (r : Nat) : RI w A ((l.take r).map Int.ofNat) := fun k hk => by
  rw [List.length_map, List.length_take] at hk
  have hk2 : k < l.length := by omega
  obtain ⟨b, o, e, hc⟩ := h.at_ (k := k) (by rw [List.length_map]; exact hk2)
  refine ⟨b, o, e, hc.trans ?_⟩
  rw [List.getD_eq_getElem?_getD, List.getElem?_eq_getElem (by rw [List.length_map, List.length_take]; omega), List.getElem_map, List.getElem_map, List.getElem_take]
  rfl
/-- the line is played: all its moves are legal -/
def PlOk (k : Nat) (at_ : Nat → Nat → Bool) (line : List Nat) : Prop := ∀ i, 1 ≤ i → ∀ h : i < line.length, lgB k at_ (line.take i) line[i] = true

set_option maxRecDepth 100000 in
set_option maxHeartbeats 8000000 in
theorem gPlayed_any {n : Nat} {l : List (Int × Int)} (hv : InR n l) (k : Nat) (hk : k = 1 ∨ k = 2) (gB gO : Nat) (A : Option Addr) (line : List Nat) (c : Nat) (w : World) (hne : line ≠ []) (hx : ∀ x ∈ line, x < n) (hl : line.length ≤ 1000) (hcp : line.length ≤ c) (hp : PlOk k (attQ l) line) (hself : k = 2 → attQ l (line.headD 0) (line.headD 0) = false) (hr : RI w A (line.map Int.ofNat)) (hnr : NetR w n l (some ⟨gB, 0, none⟩) (some ⟨gO, 0, none⟩)) (hT : Tab w) :
    Calls Tryd.prog 124 #[.agg #[.int .u64 ((allN n : Nat) : Int), .slice (some ⟨gB, 0, none⟩) n n, .slice (some ⟨gO, 0, none⟩) n n], .int .i64 (k : Int), .slice A line.length c] w (RetB (.bool true) w) := by
  have hn := hv.1
  have hpos : 0 < line.length := List.length_pos_iff.2 hne
  obtain ⟨x, hxe⟩ : ∃ x, line.headD 0 = x := ⟨_, rfl⟩
  have hx0e : line[0] = x := by rw [← hxe]; cases line with | nil => exact absurd rfl hne | cons a r => rfl
  rw [hxe] at hself
  have hxn : x < n := by rw [← hx0e]; exact hx _ (List.getElem_mem _)
  obtain ⟨bb, oo, rfl, hc⟩ := hr.at_ (k := 0) (by rw [List.length_map]; exact hpos)
  rw [List.getElem_map, hx0e, Int.ofNat_eq_natCast, Nat.add_zero] at hc
  obtain ⟨b2, o2, hB2, hcb⟩ := hnr.b x (by rw [byL_length]; exact hxn)
  injection hB2 with hB2; injection hB2 with ea eb _; subst ea; subst eb
  rw [Nat.zero_add] at hcb
  have hbu : (byL n l).getD x 0 < 18446744073709551616 := by rw [byL_at hxn]; exact u64_of hn (mk_pow (inR_flip hv) x)
  have hbt := by_testBit hv hxn x
  generalize (byL n l).getD x 0 = bx at *
  have hhas := fun W => netHas_any bx x hbu (by omega) W
  rw [hbt] at hhas
  have hx0 : (0 : Int) ≤ (x : Int) := by omega
  have hx1 : (x : Int) < (n : Int) := by omega
  have hposI : (0 : Int) < (line.length : Int) := by omega
  have Hv := Lib.hid hv; have Hx := Lib.hid hx; have Hp := Lib.hid hp; have Hne := Lib.hid hne; have Hpos := Lib.hid hpos; have Hself := Lib.hid hself
  clear hv hx hp hne hx0e hxe hbu hbt hpos hself
  go_enter Tryd.func124, Tryd.ntmps124
  go_upto_region 1 with fail
  obtain ⟨W0, hW, kn, hb0, hs0⟩ := boxedN w 97 (.int .u64 ((allN n : Nat) : Int)) (.slice (some ⟨gB, 0, none⟩) n n) (.slice (some ⟨gO, 0, none⟩) n n)
  rw [hW]
  have d0 : W0.cell? ⟨w.heap.size, 0, none⟩ = some (.int .u64 ((allN n : Nat) : Int)) := kn.cell 0
  have d1 : W0.cell? ⟨w.heap.size, 1, none⟩ = some (.slice (some ⟨gB, 0, none⟩) n n) := kn.cell 1
  have d2 : W0.cell? ⟨w.heap.size, 2, none⟩ = some (.slice (some ⟨gO, 0, none⟩) n n) := kn.cell 2
  have hc' := (hb0.cell (lt_of_cell hc)).trans hc
  have hcb' := (hb0.cell (lt_of_cell hcb)).trans hcb
  have hr0 := hr.below hb0
  have hnr0 := hnr.below hb0
  have hT0 := hT.below hb0
  clear hW kn hc hcb hr hnr hT
  go_cut [22] (fun t22 wx => t22 = .bool false ∧ Below W0.heap.size W0 wx)
  case first =>
    rcases hk with rfl | rfl
    · go_quiet (fail)
      go_wp2_with fail
      go_meet
      exact ⟨rfl, below_drewN (Below.refl _ _) _⟩
    · rw [Hself.out rfl] at hhas
      go_quiet ((refine (hhas _).mono ?_; rintro e w' ⟨rfl, rfl⟩; exact ⟨rfl, _, rfl⟩))
      go_wp2_with fail
      go_meet
      exact ⟨rfl, below_drewN (Below.refl _ _) _⟩
  obtain ⟨rfl, hd⟩ := hcut
  have f0 := (hd.cell (lt_of_cell d0)).trans d0; have f1 := (hd.cell (lt_of_cell d1)).trans d1; have f2 := (hd.cell (lt_of_cell d2)).trans d2
  have hr1 := hr0.below hd; have hnr1 := hnr0.below hd; have hT1 := hT0.below hd
  have hb1 := endB hb0 hd
  clear d0 d1 d2 hc' hcb' hr0 hnr0 hT0 hb0 hd hhas
  go_wp2_with fail
  go_loopw [7] (fun t7 wx => ∃ q : Nat, 1 ≤ q ∧ q ≤ line.length ∧ t7 = .int .i64 (q : Int) ∧ Below wc.heap.size wc wx) (fun t7 _ => line.length - (intOf t7).toNat)
  case atStart => exact ⟨1, Nat.le_refl _, Hpos.out, rfl, Below.refl _ _⟩
  case round =>
    obtain ⟨q, hq1, hq, rfl, hbr⟩ := hrel
    have hbw := endB hb1 hbr
    by_cases hqy : q < line.length
    case neg =>
      have Hbw := Lib.hid hbw
      clear hbw hbr hb1
      go_wp2_with fail
      go_ret
      exact ⟨rfl, Hbw.out⟩
    case pos =>
    obtain ⟨y, hye⟩ : ∃ y, line[q] = y := ⟨_, rfl⟩
    have hyn : y < n := by rw [← hye]; exact Hx.out _ (List.getElem_mem _)
    have hlg := Hp.out q hq1 hqy
    rw [hye] at hlg
    have hr2 := hr1.below hbr
    have hnr2 := hnr1.below hbr
    have hT2 := hT1.below hbr
    have g0 := (hbr.cell (lt_of_cell f0)).trans f0; have g1 := (hbr.cell (lt_of_cell f1)).trans f1; have g2 := (hbr.cell (lt_of_cell f2)).trans f2
    obtain ⟨b7, o7, hA, hcy⟩ := hr2.at_ (k := q) (by rw [List.length_map]; exact hqy)
    injection hA with hA; injection hA with ea eb _; subst ea; subst eb
    rw [List.getElem_map, hye, Int.ofNat_eq_natCast] at hcy
    have htl : (line.take q).length = q := by rw [List.length_take]; omega
    have hleg := fun W (hb : Below wr.heap.size wr W) => gLegal_any Hv.out k hk gB gO (some ⟨bb, oo, none⟩) (line.take q) c W (fun e => by rw [e] at htl; simp at htl; omega) (fun z hz => Hx.out z (List.mem_of_mem_take hz)) (by omega) ((hr2.below hb).takeM q) (hnr2.below hb) (hT2.below hb)
    rw [htl] at hleg
    have hml : bitsL (lgL n k (attQ l) (line.take q)) < 2 ^ n := bitsL_lt fun z hz => (mem_lg.1 hz).1
    have hbit : (bitsL (lgL n k (attQ l) (line.take q))).testBit y = true := by rw [bitsL_bit, List.contains_iff_mem]; exact mem_lg.2 ⟨hyn, hlg⟩
    have hhas := fun W => netHas_any (bitsL (lgL n k (attQ l) (line.take q))) y (u64_of hn hml) (by omega) W
    rw [hbit] at hhas
    generalize bitsL (lgL n k (attQ l) (line.take q)) = M at *
    have hq0 : (0 : Int) ≤ (q : Int) := by omega
    have hql : (q : Int) < (line.length : Int) := by omega
    have hqc : (q : Int) ≤ (c : Int) := by omega
    have Hleg := Lib.hid hleg; have Hhas := Lib.hid hhas
    clear hye hlg htl hml hbit hleg hhas f0 f1 f2 hr1 hnr1 hT1 hb1
    go_wp2_with fail
    refine wp_region_textB [5, 10] (fun w' => Below wr.heap.size wr w') (fun _ => True) (by kernel_rfl) (by kernel_rfl) (by kernel_rfl) (Below.refl _ _).drew trivial ?_
    repeat (first
      | (refine TxtBL.skip (by rfl) ?_; simp only [Act.put, List.setIfInBounds_toArray, List.set_cons_zero, List.set_cons_succ])
      | (refine TxtBL.take (by rfl) (by rfl) ?_; apply Exists.intro; refine ⟨fun w1 hS1 => ?_, ?_⟩; (focus ((have e0 := (hS1.cell (lt_of_cell g0)).trans g0); (have e1 := (hS1.cell (lt_of_cell g1)).trans g1); (have e2 := (hS1.cell (lt_of_cell g2)).trans g2); (have e3 := (hS1.cell (lt_of_cell hcy)).trans hcy); go_simp; with_reducible rfl)); simp only [Act.put, List.setIfInBounds_toArray, List.set_cons_zero, List.set_cons_succ])
      | (refine TxtBL.takeE (by rfl) (by rfl) ?_; apply Exists.intro; refine ⟨fun w1 hS1 => ?_, ?_⟩; (focus ((have e0 := (hS1.cell (lt_of_cell g0)).trans g0); (have e1 := (hS1.cell (lt_of_cell g1)).trans g1); (have e2 := (hS1.cell (lt_of_cell g2)).trans g2); (have e3 := (hS1.cell (lt_of_cell hcy)).trans hcy); go_simp; with_reducible rfl)); simp only [Act.put, List.setIfInBounds_toArray, List.set_cons_zero, List.set_cons_succ]))
    refine TxtBL.call (f := 90) (args := #[.agg #[.int .u64 ((allN n : Nat) : Int), .slice (some ⟨gB, 0, none⟩) n n, .slice (some ⟨gO, 0, none⟩) n n], .int .i64 (k : Int), .slice (some ⟨bb, oo, none⟩) q c]) (fun u => u = .int .u64 (M : Int)) (fun _ _ => True) (by rfl) (by rfl) ⟨_, rfl⟩ (fun w1 hS1 hJ1 => by go_simp) (fun w2 hS2 hJ1 => ?_) ?_
    · refine (Hleg.out w2 hS2).mono ?_
      rintro e w' ⟨rfl, hb⟩
      exact ⟨_, rfl, hS2.trans (hb.mono hS2.size), rfl, trivial⟩
    rintro _ rfl
    simp only [Act.put, List.setIfInBounds_toArray, List.set_cons_zero, List.set_cons_succ]
    repeat (first
      | (refine TxtBL.skip (by rfl) ?_; simp only [Act.put, List.setIfInBounds_toArray, List.set_cons_zero, List.set_cons_succ])
      | (refine TxtBL.take (by rfl) (by rfl) ?_; apply Exists.intro; refine ⟨fun w1 hS1 => ?_, ?_⟩; (focus ((have e0 := (hS1.cell (lt_of_cell g0)).trans g0); (have e1 := (hS1.cell (lt_of_cell g1)).trans g1); (have e2 := (hS1.cell (lt_of_cell g2)).trans g2); (have e3 := (hS1.cell (lt_of_cell hcy)).trans hcy); go_simp; with_reducible rfl)); simp only [Act.put, List.setIfInBounds_toArray, List.set_cons_zero, List.set_cons_succ])
      | (refine TxtBL.takeE (by rfl) (by rfl) ?_; apply Exists.intro; refine ⟨fun w1 hS1 => ?_, ?_⟩; (focus ((have e0 := (hS1.cell (lt_of_cell g0)).trans g0); (have e1 := (hS1.cell (lt_of_cell g1)).trans g1); (have e2 := (hS1.cell (lt_of_cell g2)).trans g2); (have e3 := (hS1.cell (lt_of_cell hcy)).trans hcy); go_simp; with_reducible rfl)); simp only [Act.put, List.setIfInBounds_toArray, List.set_cons_zero, List.set_cons_succ]))
    refine TxtBL.call (f := 91) (args := #[.int .u64 (M : Int), .int .i64 (y : Int)]) (fun u => u = .bool true) (fun _ _ => True) (by rfl) (by rfl) ⟨_, rfl⟩ (fun w1 hS1 hJ1 => by go_simp) (fun w2 hS2 hJ1 => ?_) ?_
    · refine (Hhas.out w2).mono ?_
      rintro e w' ⟨rfl, rfl⟩
      exact ⟨_, rfl, hS2, rfl, trivial⟩
    rintro _ rfl
    simp only [Act.put, List.setIfInBounds_toArray, List.set_cons_zero, List.set_cons_succ]
    repeat (first
      | (refine TxtBL.skip (by rfl) ?_; simp only [Act.put, List.setIfInBounds_toArray, List.set_cons_zero, List.set_cons_succ])
      | (refine TxtBL.take (by rfl) (by rfl) ?_; apply Exists.intro; refine ⟨fun w1 hS1 => ?_, ?_⟩; (focus (skip; go_simp; with_reducible rfl)); simp only [Act.put, List.setIfInBounds_toArray, List.set_cons_zero, List.set_cons_succ])
      | (refine TxtBL.takeE (by rfl) (by rfl) ?_; apply Exists.intro; refine ⟨fun w1 hS1 => ?_, ?_⟩; (focus (skip; go_simp; with_reducible rfl)); simp only [Act.put, List.setIfInBounds_toArray, List.set_cons_zero, List.set_cons_succ]))
    refine TxtBL.nil (fun W3 hS3 _ => ?_)
    have Hbr := Lib.hid (endB hbr hS3)
    clear hS3 hbr hbw g0 g1 g2 hcy hr2 hnr2 hT2
    go_wp2_with fail
    go_roundw
    case rel => exact ⟨q + 1, by omega, by omega, by go_num, Hbr.out⟩
    case measure => simp [intOf]; omega
end Go.Proofs.YtncimnfhfomddaaDoor

/- Package game: arguments, Moves: a line that is played. -/
namespace Go.Proofs.YtncimnfhfomddaaDoor
open Go.ChangeShapes Go.WideShapes Go.ChangeAt Go.RowKit

theorem lg_nodes {n k : Nat} (hn : n ≤ 64) {at_ : Nat → Nat → Bool} {line : List Nat} : nodesB 64 (bitsL (lgL n k at_ line)).testBit = (lgL n k at_ line).map Int.ofNat := by
  have hb : ∀ i, (bitsL (lgL n k at_ line)).testBit i = (decide (i < n) && lgB k at_ line i) := fun i => by
    rw [bitsL_bit, Bool.eq_iff_iff, Bool.and_eq_true, decide_eq_true_iff, List.contains_iff_mem, mem_lg]
  rw [nodesB_more hn (fun i hi => by rw [hb, decide_eq_false (by omega)]; rfl), nodesB_congr (q := lgB k at_ line) fun i hi => by rw [hb, decide_eq_true hi]; rfl]
  rfl

set_option maxRecDepth 100000 in
set_option maxHeartbeats 8000000 in
theorem gArgs_any (A : Option Addr) {n : Nat} {l : List (Int × Int)} (c : Nat) (hv : Vld n l) (k : Nat) (hk : k = 1 ∨ k = 2) (AL : Option Addr) (line : List Nat) (cl : Nat) (w : World) (hne : line ≠ []) (hx : ∀ x ∈ line, x < n) (hl : line.length ≤ 1000) (hcp : line.length ≤ cl) (hp : PlOk k (attQ l) line) (hself : k = 2 → attQ l (line.headD 0) (line.headD 0) = false) (hrg : RP w A l) (hr : RI w AL (line.map Int.ofNat)) (hT : Tab w) :
    Calls Tryd.prog 89 #[.agg #[.int .i64 (n : Int), .slice A l.length c], .int .i64 (k : Int), .slice AL line.length cl] w (RetB (.int .i64 0) w) := by
  have hval := hv.valE
  have hlen := hv.1.2.1
  have hpos : 0 < line.length := List.length_pos_iff.2 hne
  have hex : ∀ w, Calls Tryd.prog 75 #[.int .i64 (k : Int)] w (Ret (.bool true) w) := fun w => by
    have := gExists_any (k : Int) w
    rcases hk with rfl | rfl <;> exact this
  have hz : ((line.length : Int) == 0) = false := by rw [beq_eq_false_iff_ne]; omega
  have Hv := Lib.hid hv; have Hval := Lib.hid hval; have Hex := Lib.hid hex; have Hx := Lib.hid hx; have Hk := Lib.hid hk; have Hp := Lib.hid hp; have Hne := Lib.hid hne; have Hself := Lib.hid hself; have Hz := Lib.hid hz
  clear hv hval hex hx hk hp hne hself hz
  go_enter Tryd.func89, Tryd.ntmps89
  go_upto_region 1 with fail
  obtain ⟨W0, hW, kn, hb0, hs0⟩ : ∃ W0, w.alloc (.cells #[.int .i64 (n : Int), .slice A l.length c] 24) = W0 ∧ Blk W0 w.heap.size 24 #[.int .i64 (n : Int), .slice A l.length c] ∧ Below w.heap.size w W0 ∧ W0.heap.size = w.heap.size + 1 := ⟨_, rfl, Blk.new _ _ _, newB _ _, by simp⟩
  rw [hW]
  obtain ⟨c0, c1, -, -⟩ := kn.two
  have hrg0 := hrg.below hb0; have hr0 := hr.below hb0; have hT0 := hT.below hb0
  have hgl := kn.lt
  clear hW hrg hr hT
  go_wp2_with fail
  refine (gValidate_any A n l c W0 hrg0 hlen).mono ?_
  rintro e w1 ⟨rfl, hb1⟩
  rw [Hval.out]
  have k1 := kn.below hb1 kn.lt
  obtain ⟨d0, d1, -, -⟩ := k1.two
  have hrg1 := hrg0.below hb1; have hr1 := hr0.below hb1; have hT1 := hT0.below hb1
  have hb01 := endB hb0 hb1
  have hgl1 := k1.lt
  clear kn c0 c1 hrg0 hr0 hT0 hb0 hb1 hs0 hgl
  go_wp2_with fail
  refine (Hex.out w1).mono ?_
  rintro e w2 ⟨rfl, rfl⟩
  go_wp2_with fail
  go_loopw [20] (fun t20 wx => ∃ q : Nat, q ≤ line.length ∧ t20 = .int .i64 (q : Int) ∧ wx = w1) (fun t20 _ => line.length - (intOf t20).toNat)
  case atStart => exact ⟨0, Nat.zero_le _, rfl, rfl⟩
  case round =>
    obtain ⟨q, hq, rfl, rfl⟩ := hrel
    by_cases hqy : q < line.length
    case pos =>
      obtain ⟨y, hye⟩ : ∃ y, line[q] = y := ⟨_, rfl⟩
      have hyn : y < n := by rw [← hye]; exact Hx.out _ (List.getElem_mem _)
      obtain ⟨b7, o7, rfl, hcy⟩ := hr1.at_ (k := q) (by rw [List.length_map]; exact hqy)
      rw [List.getElem_map, hye, Int.ofNat_eq_natCast] at hcy
      have hy0 : decide ((y : Int) < 0) = false := by rw [decide_eq_false_iff_not]; omega
      have hy1 : decide ((n : Int) ≤ (y : Int)) = false := by rw [decide_eq_false_iff_not]; omega
      clear hye
      go_wp2_with fail
      go_roundw
      case rel => exact ⟨q + 1, by omega, by go_num, trivial⟩
      case measure => simp [intOf]; omega
    case neg =>
    have hqe : q = line.length := by omega
    clear hq
    subst hqe
    have hz := Hz.out
    go_wp2_with fail
    refine (netNew_any A n l c wr hrg1 Hv.out.1).mono ?_
    rintro e w3 ⟨gB, gO, rfl, hgB, hgO, hrB, hrO, hb3⟩
    have hpl := gPlayed_any Hv.out.1 k Hk.out gB gO AL line cl w3 Hne.out Hx.out hl hcp Hp.out Hself.out (hr1.below hb3) ⟨hrB, hrO⟩ (hT1.below hb3)
    have Hpl := Lib.hid hpl
    have hb03 := endB hb01 hb3
    clear hpl hrB hrO hb3 hrg1 hr1 hT1 d0 d1 hb01
    go_wp2_with fail
    refine Hpl.out.mono ?_
    rintro e w4 ⟨rfl, hb4⟩
    have Hb := Lib.hid (endB hb03 hb4)
    clear hb03 hb4
    go_wp2_with fail
    go_ret
    exact ⟨rfl, Hb.out⟩
/-- Moves: the list of the legal moves -/
def RetMv (L : List Nat) (w : World) : Ending → World → Prop := fun e w' => ∃ (A : Option Addr) (c : Nat), e = .returned (.tuple #[.slice A L.length c, .int .i64 0]) ∧ RI w' A (L.map Int.ofNat) ∧ Below w.heap.size w w' ∧ ∀ b o, A = some ⟨b, o, none⟩ → w.heap.size ≤ b

set_option maxRecDepth 100000 in
set_option maxHeartbeats 8000000 in
theorem gMoves_any (A : Option Addr) {n : Nat} {l : List (Int × Int)} (c : Nat) (hv : Vld n l) (k : Nat) (hk : k = 1 ∨ k = 2) (AL : Option Addr) (line : List Nat) (cl : Nat) (w : World) (hne : line ≠ []) (hx : ∀ x ∈ line, x < n) (hl : line.length ≤ 1000) (hcp : line.length ≤ cl) (hp : PlOk k (attQ l) line) (hself : k = 2 → attQ l (line.headD 0) (line.headD 0) = false) (hrg : RP w A l) (hr : RI w AL (line.map Int.ofNat)) (hT : Tab w) :
    Calls Tryd.prog 39 #[.agg #[.int .i64 (n : Int), .slice A l.length c], .int .i64 (k : Int), .slice AL line.length cl] w (RetMv (lgL n k (attQ l) line) w) := by
  have hn := hv.1.1
  have hml : bitsL (lgL n k (attQ l) line) < 2 ^ n := bitsL_lt fun z hz => (mem_lg.1 hz).1
  have hlist := fun W hT => netList_any (bitsL (lgL n k (attQ l) line)) (u64_of hn hml) W hT
  rw [lg_nodes (by omega)] at hlist
  have hargs := fun W (hb : Below w.heap.size w W) => gArgs_any A c hv k hk AL line cl W hne hx hl hcp hp hself (hrg.below hb) (hr.below hb) (hT.below hb)
  have Hv := Lib.hid hv; have Hlist := Lib.hid hlist; have Hargs := Lib.hid hargs; have Hk := Lib.hid hk; have Hne := Lib.hid hne; have Hx := Lib.hid hx
  clear hv hml hlist hargs hk hne hx hp hself
  go_enter Tryd.func39, Tryd.ntmps39
  go_upto_region 1 with fail
  obtain ⟨W0, hW, kn, hb0, hs0⟩ : ∃ W0, w.alloc (.cells #[.int .i64 (n : Int), .slice A l.length c] 24) = W0 ∧ Blk W0 w.heap.size 24 #[.int .i64 (n : Int), .slice A l.length c] ∧ Below w.heap.size w W0 ∧ W0.heap.size = w.heap.size + 1 := ⟨_, rfl, Blk.new _ _ _, newB _ _, by simp⟩
  rw [hW]
  obtain ⟨c0, c1, -, -⟩ := kn.two
  have hrg0 := hrg.below hb0; have hr0 := hr.below hb0; have hT0 := hT.below hb0
  have Ha := Lib.hid (Hargs.out W0 hb0)
  clear hW hrg hr hT
  go_wp2_with fail
  refine Ha.out.mono ?_
  rintro e w1 ⟨rfl, hb1⟩
  have k1 := kn.below hb1 kn.lt
  obtain ⟨d0, d1, -, -⟩ := k1.two
  have hrg1 := hrg0.below hb1; have hr1 := hr0.below hb1; have hT1 := hT0.below hb1
  have hb01 := endB hb0 hb1
  clear kn c0 c1 hrg0 hr0 hT0 hb0 hb1 hs0 Ha
  go_wp2_with fail
  refine (netNew_any A n l c w1 hrg1 Hv.out.1).mono ?_
  rintro e w3 ⟨gB, gO, rfl, hgB, hgO, hrB, hrO, hb3⟩
  have hT3 := hT1.below hb3
  have hleg := gLegal_any Hv.out.1 k Hk.out gB gO AL line cl w3 Hne.out Hx.out hl (hr1.below hb3) ⟨hrB, hrO⟩ hT3
  have Hleg := Lib.hid hleg
  have hb03 := endB hb01 hb3
  clear hleg hrB hrO hb3 hrg1 hr1 hT1 d0 d1 hb01 k1
  go_wp2_with fail
  refine Hleg.out.mono ?_
  rintro e w4 ⟨rfl, hb4⟩
  have Hl := Lib.hid (Hlist.out w4 (hT3.below hb4))
  have hb04 := endB hb03 hb4
  clear hT3 hb4 hb03
  go_wp2_with fail
  refine Hl.out.mono ?_
  rintro e w5 ⟨A5, c5, rfl, hoy, -, -, hb5⟩
  have hnew : ∀ b o, A5 = some ⟨b, o, none⟩ → w.heap.size ≤ b := fun b o e => by
    have := (World.ownsRow.lt hoy b (by rw [e]; rfl)).1
    have := hb04.size
    omega
  have Hri := Lib.hid hoy.ri; have Hnew := Lib.hid hnew
  rw [List.length_map]
  have Hb := Lib.hid (endB hb04 hb5)
  clear hoy hb5 hb04 hnew
  go_wp2_with fail
  go_ret2
  exact ⟨A5, c5, rfl, Hri.out, Hb.out, Hnew.out⟩
end Go.Proofs.YtncimnfhfomddaaDoor

/- The tree of the game, searched: plain. -/
namespace Go.Proofs.YtncimnfhfomddaaDoor
section
variable {n k : Nat} {at_ : Nat → Nat → Bool}
/-- behind enough rounds the value of a line stands -/
def Val (n k : Nat) (at_ : Nat → Nat → Bool) (line : List Nat) (r : Nat) : Prop := ∃ f0, ∀ f, f0 ≤ f → winG n k at_ f line = r
theorem Val.hit {line : List Nat} {a : Nat} (ha : a ∈ lgL n k at_ line) (h : Val n k at_ (line ++ [a]) (mvr line)) : Val n k at_ line (mvr line) := by
  obtain ⟨f0, h⟩ := h
  refine ⟨f0 + 1, fun f hf => ?_⟩
  obtain ⟨f, rfl⟩ : ∃ f', f = f' + 1 := ⟨f - 1, by omega⟩
  rw [winG_succ, if_pos (List.any_eq_true.2 ⟨a, ha, by rw [h f (by omega)]; simp⟩)]
theorem Val.none {line : List Nat} (h : ∀ a ∈ lgL n k at_ line, ∃ r, r ≠ mvr line ∧ Val n k at_ (line ++ [a]) r) : Val n k at_ line (3 - mvr line) := by
  have key : ∀ L : List Nat, (∀ a ∈ L, ∃ r, r ≠ mvr line ∧ Val n k at_ (line ++ [a]) r) → ∃ f0, ∀ f, f0 ≤ f → ∀ a ∈ L, winG n k at_ f (line ++ [a]) ≠ mvr line := by
    intro L
    induction L with
    | nil => intro _; exact ⟨0, fun _ _ a ha => by cases ha⟩
    | cons b L ih =>
      intro h
      obtain ⟨f1, h1⟩ := ih fun a ha => h a (List.mem_cons_of_mem _ ha)
      obtain ⟨r, hr, f2, h2⟩ := h b (List.mem_cons_self ..)
      refine ⟨f1 + f2, fun f hf a ha => ?_⟩
      rcases List.mem_cons.1 ha with rfl | ha
      · rw [h2 f (by omega)]; exact hr
      · exact h1 f (by omega) a ha
  obtain ⟨f0, hf0⟩ := key _ h
  refine ⟨f0 + 1, fun f hf => ?_⟩
  obtain ⟨f, rfl⟩ : ∃ f', f = f' + 1 := ⟨f - 1, by omega⟩
  rw [winG_succ, if_neg]
  intro hh
  obtain ⟨a, ha, he⟩ := List.any_eq_true.1 hh
  exact hf0 f (by omega) a ha (by simpa using he)
theorem Val.one {line : List Nat} {r r' : Nat} (h : Val n k at_ line r) {f1 : Nat} (h1 : ∀ f, f1 ≤ f → winG n k at_ f line = r') : r = r' := by
  obtain ⟨f0, h⟩ := h
  rw [← h (f0 + f1) (by omega), h1 (f0 + f1) (by omega)]
theorem PlOk.snoc {line : List Nat} {a : Nat} (h : PlOk k at_ line) (ha : lgB k at_ line a = true) : PlOk k at_ (line ++ [a]) := fun i h1 hi => by
  by_cases e : i < line.length
  · rw [List.take_append_of_le_length (by omega), List.getElem_append_left e]
    exact h i h1 e
  · rw [List.length_append, List.length_singleton] at hi
    have e2 : i = line.length := by omega
    subst e2
    rw [List.take_append_of_le_length (Nat.le_refl _), List.take_length, List.getElem_append_right (Nat.le_refl _)]
    simpa using ha
theorem PlOk.one (a : Nat) : PlOk k at_ [a] := fun i h1 hi => absurd hi (by simp; omega)
theorem PlOk.pre {line : List Nat} {a : Nat} (h : PlOk k at_ (line ++ [a])) (hne : line ≠ []) : PlOk k at_ line ∧ lgB k at_ line a = true := by
  have hp := List.length_pos_iff.2 hne
  constructor
  · intro i h1 hi
    have := h i h1 (by rw [List.length_append]; omega)
    rwa [List.take_append_of_le_length (by omega), List.getElem_append_left hi] at this
  · have := h line.length hp (by rw [List.length_append, List.length_singleton]; omega)
    rw [List.take_append_of_le_length (Nat.le_refl _), List.take_length, List.getElem_append_right (Nat.le_refl _)] at this
    simpa using this
theorem rev_ind {P : List Nat → Prop} (h0 : P []) (h1 : ∀ l a, P l → P (l ++ [a])) (l : List Nat) : P l := by
  have key : ∀ m (l : List Nat), l.length = m → P l := by
    intro m
    induction m with
    | zero => intro l hl; rw [List.eq_nil_of_length_eq_zero hl]; exact h0
    | succ m ih =>
      intro l hl
      have hne : l ≠ [] := fun e => by rw [e] at hl; cases hl
      have := h1 l.dropLast (l.getLast hne) (ih _ (by rw [List.length_dropLast]; omega))
      rwa [List.dropLast_concat_getLast hne] at this
  exact key _ l rfl
/-- in the grounded game the proponent's moves, in the credulous one the opponent's moves differ -/
theorem PlOk.nodup (hk : k = 1 ∨ k = 2) : ∀ line : List Nat, PlOk k at_ line → (k = 1 → (proS line).Nodup) ∧ (k = 2 → (oppS line).Nodup) := by
  refine rev_ind (fun _ => ⟨fun _ => List.nodup_nil, fun _ => List.nodup_nil⟩) fun l a ih h => ?_
  by_cases hne : l = []
  · subst hne; exact ⟨fun _ => by simp [proS], fun _ => by simp [oppS]⟩
  obtain ⟨hp, hl⟩ := h.pre hne
  obtain ⟨i1, i2⟩ := ih hp
  have hsn : ∀ L : List Nat, L.Nodup → a ∉ L → (L ++ [a]).Nodup := fun L hL ha => by
    rw [List.nodup_append]
    refine ⟨hL, by simp, fun x hx y hy => ?_⟩
    rw [List.mem_singleton] at hy
    rintro rfl
    exact ha (hy ▸ hx)
  rcases hk with rfl | rfl
  · refine ⟨fun _ => ?_, fun e => by cases e⟩
    by_cases hpar : l.length % 2 = 0
    · rw [proS_even hpar]
      rw [lg_p1 hpar, Bool.and_eq_true, Bool.not_eq_true', ← Bool.not_eq_true, List.contains_iff_mem] at hl
      exact hsn _ (i1 rfl) hl.2
    · rw [proS_odd (by omega)]; exact i1 rfl
  · refine ⟨fun e => (by cases e), fun _ => ?_⟩
    by_cases hpar : l.length % 2 = 0
    · rw [oppS_even hpar]; exact i2 rfl
    · rw [oppS_odd (by omega)]
      rw [lg_o2 (by omega), Bool.and_eq_true, Bool.not_eq_true', ← Bool.not_eq_true, List.contains_iff_mem] at hl
      exact hsn _ (i2 rfl) hl.1
theorem nodup_le {L : List Nat} (h : L.Nodup) (hl : ∀ x ∈ L, x < n) : L.length ≤ n := by
  have := nodup_len n (L.map Int.ofNat) (List.Pairwise.map _ (fun _ _ hne e => hne (Int.ofNat.inj e)) h) fun x hx => by
    obtain ⟨y, hy, rfl⟩ := List.mem_map.1 hx
    exact ⟨y, hl y hy, rfl⟩
  rwa [List.length_map] at this
theorem PlOk.short (hk : k = 1 ∨ k = 2) {line : List Nat} (h : PlOk k at_ line) (hx : ∀ x ∈ line, x < n) : line.length ≤ 2 * n + 1 := by
  obtain ⟨h1, h2⟩ := PlOk.nodup hk line h
  rcases hk with e | e
  · have := nodup_le (h1 e) fun x hx' => hx x (mem_pro hx')
    rw [lens_pro] at this; omega
  · have := nodup_le (h2 e) fun x hx' => hx x (mem_opp hx')
    rw [lens_opp] at this; omega
end
end Go.Proofs.YtncimnfhfomddaaDoor

/- Package game: Winner, at a line that is played. -/
namespace Go.Proofs.YtncimnfhfomddaaDoor
open Go.ChangeShapes Go.WideShapes Go.ChangeAt Go.RowKit

/-- who has won: nobody while there are moves -/
def wnG (L : List Nat) (line : List Nat) : Int := if L = [] then (if line.length % 2 = 1 then 1 else 2) else 0

set_option maxRecDepth 100000 in
set_option maxHeartbeats 8000000 in
theorem gWinner_any (A : Option Addr) {n : Nat} {l : List (Int × Int)} (c : Nat) (hv : Vld n l) (k : Nat) (hk : k = 1 ∨ k = 2) (AL : Option Addr) (line : List Nat) (cl : Nat) (w : World) (hne : line ≠ []) (hx : ∀ x ∈ line, x < n) (hl : line.length ≤ 1000) (hcp : line.length ≤ cl) (hp : PlOk k (attQ l) line) (hself : k = 2 → attQ l (line.headD 0) (line.headD 0) = false) (hrg : RP w A l) (hr : RI w AL (line.map Int.ofNat)) (hT : Tab w) :
    Calls Tryd.prog 44 #[.agg #[.int .i64 (n : Int), .slice A l.length c], .int .i64 (k : Int), .slice AL line.length cl] w (RetB (.tuple #[.int .i64 (wnG (lgL n k (attQ l) line) line), .int .i64 0]) w) := by
  have hm := fun W (hb : Below w.heap.size w W) => gMoves_any A c hv k hk AL line cl W hne hx hl hcp hp hself (hrg.below hb) (hr.below hb) (hT.below hb)
  have hll : (lgL n k (attQ l) line).length ≤ 1000 := by have := List.length_filter_le (lgB k (attQ l) line) (List.range n); have := hv.1.1; unfold lgL; simp at *; omega
  generalize lgL n k (attQ l) line = L at *
  have Hm := Lib.hid hm
  clear hm hv hk hne hx hcp hp hself hrg hr hT
  go_enter Tryd.func44, Tryd.ntmps44
  go_upto_region 1 with fail
  obtain ⟨W0, hW, kn, hb0, hs0⟩ : ∃ W0, w.alloc (.cells #[.int .i64 (n : Int), .slice A l.length c] 24) = W0 ∧ Blk W0 w.heap.size 24 #[.int .i64 (n : Int), .slice A l.length c] ∧ Below w.heap.size w W0 ∧ W0.heap.size = w.heap.size + 1 := ⟨_, rfl, Blk.new _ _ _, newB _ _, by simp⟩
  rw [hW]
  obtain ⟨c0, c1, -, -⟩ := kn.two
  have Hm0 := Lib.hid (Hm.out W0 hb0)
  clear hW kn Hm
  go_wp2_with fail
  refine Hm0.out.mono ?_
  rintro e w1 ⟨A1, cc1, rfl, -, hb, -⟩
  have Hb := Lib.hid (endB hb0 hb)
  clear hb hb0 c0 c1 Hm0 hs0
  cases L with
  | cons a r =>
    have h0 : decide (0 < (a :: r).length) = true := by rw [decide_eq_true_iff]; simp only [List.length_cons]; omega
    have hw : wnG (a :: r) line = 0 := by unfold wnG; rw [if_neg (by simp)]
    have He := Lib.hid hw; clear hw
    generalize hLL : (a :: r).length = m at *
    go_wp2_with fail
    go_ret2
    rw [He.out]
    exact ⟨rfl, Hb.out⟩
  | nil =>
    by_cases hpar : line.length % 2 = 1
    · have he : wnG [] line = 1 := by unfold wnG; rw [if_pos rfl, if_pos hpar]
      have He := Lib.hid he
      have hq : ((line.length : Int) % 2 == 1) = true := by rw [beq_iff_eq]; omega
      clear hpar he
      go_wp2_with fail
      go_ret2
      rw [He.out]
      exact ⟨rfl, Hb.out⟩
    · have hpar0 : line.length % 2 = 0 := by omega
      have he : wnG [] line = 2 := by unfold wnG; rw [if_pos rfl, if_neg hpar]
      have He := Lib.hid he
      have hq : ((line.length : Int) % 2 == 1) = false := by rw [beq_eq_false_iff_ne]; omega
      clear hpar hpar0 he
      go_wp2_with fail
      go_ret2
      rw [He.out]
      exact ⟨rfl, Hb.out⟩
end Go.Proofs.YtncimnfhfomddaaDoor

/- Steps in a world of which one block turns. -/
namespace Go.Proofs.YtncimnfhfomddaaDoor
open Go.ChangeShapes Go.WideShapes Go.ChangeAt Go.RowKit
theorem Mt.transB {p g : Nat} {a b c : World} (h : Mt p g a b) (k : Below a.heap.size b c) : Mt p g a c :=
  ⟨k.os.trans h.os, k.tape.trans h.tape, k.output.trans h.output, Nat.le_trans h.size k.size, fun i hi h1 h2 => (k.block i hi).trans (h.block i hi h1 h2)⟩
theorem Mt.tab {p g : Nat} {a b : World} (h : Mt p g a b) (hT : Tab a) (h1 : 0 ≠ p) (h2 : 0 ≠ g) : Tab b := fun j hj => h.cell (hT j hj) h1 h2
theorem Mt.rp {p g : Nat} {a b : World} (h : Mt p g a b) {A : Option Addr} {l : List (Int × Int)} (hr : RP a A l) (hn : ∀ c o, A = some ⟨c, o, none⟩ → c ≠ p ∧ c ≠ g) : RP b A l := fun j hj => by
  obtain ⟨c, o, e, h1, h2⟩ := hr j hj
  exact ⟨c, o, e, h.cell h1 (hn c o e).1 (hn c o e).2, h.cell h2 (hn c o e).1 (hn c o e).2⟩
theorem Mt.blk {p g q : Nat} {a b : World} {t : TypeId} {cs : Array Value} (h : Mt p g a b) (hk : Blk a q t cs) (h1 : q ≠ p) (h2 : q ≠ g) : Blk b q t cs := by
  unfold Blk at hk ⊢
  exact (h.block q (Array.getElem?_eq_some_iff.1 hk).1 h1 h2).trans hk
end Go.Proofs.YtncimnfhfomddaaDoor
