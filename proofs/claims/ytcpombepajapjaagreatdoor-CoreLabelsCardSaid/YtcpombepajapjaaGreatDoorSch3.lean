/- search.finder: labels, find. -/
import Derived.Test.YtcpombepajapjaaGreatDoorSch2
import Derived.Test.YtcpombepajapjaaGreatDoorPl14n
namespace Go.Proofs.YtcpombepajapjaaGreatDoor
open Go.ChangeShapes Go.WideShapes Go.ChangeAt Go.RowKit

/-- the call tells the first node with several labels, or all labels -/
def RetLn (n : Nat) (D : Nat → Nat) (w : World) : Ending → World → Prop := fun e w' => Below w.heap.size w w' ∧
  ((∃ o, o < n ∧ ¬ oneD (D o) ∧ (∀ j, j < o → oneD (D j)) ∧ e = .returned (.tuple #[.slice none 0 0, .int .i64 (o : Int)])) ∨
   ((∀ i, i < n → oneD (D i)) ∧ ∃ A c, e = .returned (.tuple #[.slice A n c, .int .i64 (-1)]) ∧ OwnI w' w.heap.size (.slice A n c) (lst n fun i => labN (D i))))

set_option maxRecDepth 100000 in
set_option maxHeartbeats 4000000 in
theorem slabels_any (f n B : Nat) (l : List (Int × Int)) (AT : Option Addr) (cA : Nat) (D : Nat → Nat) (v : Value) (full : Bool) (w : World) (h : FSt w f n B l AT cA D v full) :
    Calls Tryz.prog 85 #[.pointer (some ⟨f, 0, none⟩)] w (RetLn n D w) := by
  have hn := h.hv.1
  have hF := h.fin
  have hfl := Blk.lt hF
  have c0 := hF.c0
  have HF := Lib.hid hF
  clear h hF
  go_enter Tryz.func85, Tryz.ntmps85
  go_wp2_with fail
  clear c0
  go_loopw [4, 10] (fun u j wr => ∃ k : Nat, k ≤ n ∧ j = .int .i64 k ∧ OwnI wr w.heap.size u (lst k fun i => labN (D i)) ∧ (∀ i, i < k → oneD (D i)) ∧ Below w.heap.size w wr) (fun _ j _ => n - (intOf j).toNat)
  case atStart => exact ⟨0, Nat.zero_le _, rfl, OwnI.nil _ _, fun i hi => by omega, Below.refl _ _⟩
  case round =>
    obtain ⟨k, hk, rfl, hown, hone, hbl⟩ := hrel
    have Hone := Lib.hid hone
    clear hone
    by_cases hkn : k < n
    case neg =>
      obtain rfl : k = n := by omega
      have Hown := Lib.hid hown
      clear hown
      go_wp2_with fail
      go_ret2
      obtain ⟨A, c, rfl, _, _⟩ := OwnI.form Hown.out
      have ho := Hown.out
      rw [lst_length] at ho ⊢
      exact ⟨hbl, .inr ⟨Hone.out, A, c, rfl, ho⟩⟩
    case pos =>
    have hkn' : (k : Int) < (n : Int) := by omega
    have hk40 : k < 40 := by omega
    have hk40' : (k : Int) < 40 := by omega
    have hk0' : (0 : Int) ≤ (k : Int) := by omega
    have hcd := Fnd.at_ (Blk.below HF.out hbl hfl) hk40
    have hlen : (lst k fun i => labN (D i)).length ≤ 1000000 := by rw [lst_length]; omega
    have Hown := Lib.hid hown
    clear hown
    by_cases x2 : D k = 2
    · rw [x2] at hcd
      have Hx := Lib.hid x2
      clear x2
      go_wp2_with (at_builtin; refine wpList_appI (by rfl) _ _ (by rfl) wr w.heap.size _ _ 1 Hown.out (by rfl) (by rfl) hlen hbl.size ?_; intro v' w4 hown' hb4 hg4)
      go_roundw
      case rel => exact ⟨k + 1, by omega, by go_num, by rw [lst_succ, Hx.out]; exact hown', fun i hi => by
        rcases Nat.lt_or_ge i k with h | h
        · exact Hone.out i h
        · have : i = k := by omega
          rw [this, Hx.out]; decide, hbl.trans hb4⟩
      case measure => simp [intOf]; omega
    by_cases x4 : D k = 4
    · rw [x4] at hcd
      have Hx := Lib.hid x4
      clear x4
      go_wp2_with (at_builtin; refine wpList_appI (by rfl) _ _ (by rfl) wr w.heap.size _ _ 2 Hown.out (by rfl) (by rfl) hlen hbl.size ?_; intro v' w4 hown' hb4 hg4)
      go_roundw
      case rel => exact ⟨k + 1, by omega, by go_num, by rw [lst_succ, Hx.out]; exact hown', fun i hi => by
        rcases Nat.lt_or_ge i k with h | h
        · exact Hone.out i h
        · have : i = k := by omega
          rw [this, Hx.out]; decide, hbl.trans hb4⟩
      case measure => simp [intOf]; omega
    by_cases x8 : D k = 8
    · rw [x8] at hcd
      have Hx := Lib.hid x8
      clear x8
      go_wp2_with (at_builtin; refine wpList_appI (by rfl) _ _ (by rfl) wr w.heap.size _ _ 3 Hown.out (by rfl) (by rfl) hlen hbl.size ?_; intro v' w4 hown' hb4 hg4)
      go_roundw
      case rel => exact ⟨k + 1, by omega, by go_num, by rw [lst_succ, Hx.out]; exact hown', fun i hi => by
        rcases Nat.lt_or_ge i k with h | h
        · exact Hone.out i h
        · have : i = k := by omega
          rw [this, Hx.out]; decide, hbl.trans hb4⟩
      case measure => simp [intOf]; omega
    have d2 : ((D k : Int) == 2) = false := by simp; omega
    have d4 : ((D k : Int) == 4) = false := by simp; omega
    have d8 : ((D k : Int) == 8) = false := by simp; omega
    have hno : ¬ oneD (D k) := fun h => by rcases h with h | h | h <;> omega
    have Hno := Lib.hid hno
    clear x2 x4 x8 hno
    go_wp2_with fail
    go_ret2
    exact ⟨hbl, .inl ⟨k, hkn, Hno.out, Hone.out, rfl⟩⟩

theorem OwnL.kept {w w' : World} {base p : Nat} {xs : List Value} {ls : List (List Int)} (h : OwnL w base xs ls) (hg : w.grownBy w' (some p)) (hp : p < base) : OwnL w' base xs ls :=
  ⟨h.1, fun k hk => by obtain ⟨A, c, h1, h2⟩ := h.2 k hk; exact ⟨A, c, h1, ownsRow_far h2 hg hp⟩⟩
theorem FSt.fr {w w' : World} {f n B : Nat} {l : List (Int × Int)} {AT : Option Addr} {cA : Nat} {D D' : Nat → Nat} {v v' u : Value} {full full' : Bool} (h : FSt w f n B l AT cA D v full) (hs : subD D' (fullD n)) (hF : Fnd w' f n (.slice AT n cA) D' v' full') (hfr : FindFr f u w w') (hu : ∀ k, u.ownBlock = some k → B ≤ k) : FSt w' f n B l AT cA D' v' full' where
  fin := hF
  att := h.att.near ⟨hfr.os, hfr.tape, hfr.output, hfr.size, fun k hk hf => hfr.block k (Nat.lt_of_lt_of_le hk h.hB) hf fun e => by have := hu k e.symm; omega⟩
  top := hs
  hv := h.hv
  hB := Nat.le_trans h.hB hfr.size
  hf := h.hf
theorem OwnS.up {w : World} {b : Nat} {v : Value} {xs : List Value} (h : OwnS w b v xs) : ∀ k, v.ownBlock = some k → b ≤ k ∧ k < w.heap.size := fun k hk => World.ownsRow.lt h k hk

/-- the call has found all labellings that are left, up to 201 -/
def RetFd (f n : Nat) (l : List (Int × Int)) (vat : Value) (D : Nat → Nat) (v : Value) (F : List (List Int)) (B : Nat) (w : World) : Ending → World → Prop := fun e w' => e = .returned (.tuple #[]) ∧ ∃ (D' : Nat → Nat) (v' : Value) (xs' : List Value),
  Fnd w' f n vat D' v' (decide ((capL 201 F (solL n l D)).length = 201)) ∧ OwnS w' B v' xs' ∧ OwnL w' B xs' (capL 201 F (solL n l D)) ∧ FindFr f v w w' ∧ Led w v v'

/-- the finder's list of what was found -/
structure Fou (w : World) (B : Nat) (v : Value) (xs : List Value) (F : List (List Int)) : Prop where
  s : OwnS w B v xs
  l : OwnL w B xs F
namespace Fou
variable {w w' : World} {B f : Nat} {v : Value} {xs : List Value} {F : List (List Int)}
theorem below (h : Fou w B v xs F) (hb : Below w.heap.size w w') : Fou w' B v xs F := ⟨ownsRow_below h.s hb, h.l.below hb⟩
theorem kept (h : Fou w B v xs F) (hg : w.grownBy w' (some f)) (hf : f < B) : Fou w' B v xs F := ⟨ownsRow_far h.s hg hf, h.l.kept hg hf⟩
theorem len (h : Fou w B v xs F) : xs.length = F.length := h.l.1
end Fou

set_option maxRecDepth 100000 in
set_option maxHeartbeats 8000000 in
theorem find_any (f n B : Nat) (l : List (Int × Int)) (AT : Option Addr) (cA : Nat) : ∀ (s : Nat) (D : Nat → Nat) (v : Value) (xs : List Value) (F : List (List Int)) (w : World), sumD n D ≤ s → FSt w f n B l AT cA D v (decide (F.length = 201)) → F.length ≤ 201 → Fou w B v xs F →
    Calls Tryz.prog 73 #[.pointer (some ⟨f, 0, none⟩)] w (RetFd f n l (.slice AT n cA) D v F B w) := by
  intro s
  induction s using Nat.strongRecOn
  rename_i s ih
  intro D v xs F w hs h hF hfo
  have hn := h.hv.1
  have hfB := h.hf
  have hfl := Blk.lt h.fin
  obtain ⟨fb, hfb⟩ : ∃ fb, decide (F.length = 201) = fb := ⟨_, rfl⟩
  rw [hfb] at h
  have c43 := h.fin.c43
  have H := Lib.hid h; have Hfo := Lib.hid hfo; have Hfb := Lib.hid hfb; have Hs := Lib.hid hs
  clear h hfo hfb hs
  cases fb
  case true =>
    have hfull : F.length = 201 := by have := Hfb.out; simpa using this
    have Hend := Lib.hid (capL_full (a := solL n l D) hfull)
    clear hfull
    go_enter Tryz.func73, Tryz.ntmps73
    go_wp2_with fail
    refine bodyPost_ret (results_none rfl _ _ _) rfl ?_
    exact ⟨rfl, D, v, xs, by rw [Hend.out, Hfb.out]; exact H.out.fin, Hfo.out.s, by rw [Hend.out]; exact Hfo.out.l, FindFr.refl .., Led.refl ..⟩
  case false =>
  have hne : F.length ≠ 201 := by have := Hfb.out; simpa using this
  go_enter Tryz.func73, Tryz.ntmps73
  go_wp2_with fail
  refine (settle_any f n B l AT cA D v false w H.out).mono ?_
  rintro e w1 ⟨E, b, rfl, hF1, hg1, hsE, htr, hfa⟩
  have hfo1 := Hfo.out.kept hg1 hfB
  have h1 : FSt w1 f n B l AT cA E v false := H.out.upd hsE hF1 hg1
  have Hg1 := Lib.hid hg1; have Hfo1 := Lib.hid hfo1; have H1 := Lib.hid h1; have HsE := Lib.hid hsE
  clear hF1 hg1 hsE hfo1 h1 c43
  cases b
  case false =>
    have Hend := Lib.hid (show capL 201 F (solL n l D) = F by rw [hfa rfl]; exact capL_nil hF)
    clear htr hfa hF hne
    go_wp2_with fail
    refine bodyPost_ret (results_none rfl _ _ _) rfl ?_
    exact ⟨rfl, E, v, xs, by rw [Hend.out, Hfb.out]; exact H1.out.fin, Hfo1.out.s, by rw [Hend.out]; exact Hfo1.out.l, FindFr.of_grown Hg1.out, Led.refl ..⟩
  case true =>
  obtain ⟨hfix, hnz, hsol⟩ := htr rfl
  have Hfix := Lib.hid hfix; have Hnz := Lib.hid hnz; have Hsol := Lib.hid hsol
  clear htr hfa hfix hnz hsol
  go_wp2_with fail
  refine (slabels_any f n B l AT cA E v false w1 H1.out).mono ?_
  rintro e w2 ⟨hb2, ⟨o, hon, hno, hbef, rfl⟩ | ⟨hall, A2, c2, rfl, ho2⟩⟩
  case inr =>
    have hone := sol_one H.out.hv Hfix.out hall
    have Hend := Lib.hid (show capL 201 F (solL n l D) = F ++ [lst n fun i => labN (E i)] by rw [← Hsol.out, hone]; exact capL_one (by omega))
    have hlen : decide ((F ++ [lst n fun i => labN (E i)]).length = 201) = decide (F.length = 200) := by rw [List.length_append]; simp
    have Hlen := Lib.hid hlen
    have hfo2 := Hfo1.out.below hb2
    have hF2 : Fnd w2 f n (.slice AT n cA) E v false := Blk.below H1.out.fin hb2 (Blk.lt H1.out.fin)
    obtain ⟨AV, cV, rfl, hrs⟩ := OwnS.forms hfo2.s hfo2.l
    have hfl2 : f < w2.heap.size := Blk.lt hF2
    have hB2 : B ≤ w2.heap.size := Nat.le_trans H1.out.hB hb2.size
    have c42 := hF2.c42
    have c43 := hF2.c43
    have z42 := hF2.frozen 42
    have z43 := hF2.frozen 43
    have ho2' : OwnI w2 B (.slice A2 n c2) (lst n fun i => labN (E i)) := OwnI.mono ho2 H1.out.hB
    have Hfo2 := Lib.hid hfo2; have HF2 := Lib.hid hF2; have Ho2 := Lib.hid ho2'; have Hb2 := Lib.hid hb2
    clear hall hone hlen hfo2 hF2 ho2 ho2' hb2 hrs
    obtain ⟨q, hq⟩ : ∃ q, ((F.length : Int) == 200) = q := ⟨_, rfl⟩
    have Hq := Lib.hid (show decide (F.length = 200) = q by rw [← hq, Bool.eq_iff_iff, decide_eq_true_iff, beq_iff_eq]; omega)
    go_upto_region 4 with fail
    obtain ⟨W3, hW3, hF3, hg3⟩ : ∃ W3, w2.setCell ⟨f, 43, none⟩ (.bool q) = W3 ∧ Fnd W3 f n (.slice AT n cA) E (.slice AV F.length cV) q ∧ w2.grownBy W3 (some f) := ⟨_, rfl, HF2.out.put43 q, grownBy_setCell _ _ _ _⟩
    rw [hW3]
    clear hW3 c42 c43 z42 z43 hq
    have hfo3 := Hfo2.out.kept hg3 hfB
    have ho3 : OwnI W3 B (.slice A2 n c2) (lst n fun i => labN (E i)) := ownsRow_far Ho2.out hg3 hfB
    have c42 := hF3.c42
    have z42 := hF3.frozen 42
    have hB3 := Nat.le_trans hB2 hg3.size
    have hxl : xs.length ≤ 1000000 := by rw [hfo3.len]; omega
    obtain ⟨L, hL⟩ : ∃ L, (lst n fun i => labN (E i)) = L := ⟨_, rfl⟩
    rw [hL] at ho3 Hend Hlen
    have HL := Lib.hid (show L.length = n by rw [← hL]; exact lst_length _ _)
    have Hfo3 := Lib.hid hfo3; have HF3 := Lib.hid hF3; have Ho3 := Lib.hid ho3; have Hg3 := Lib.hid hg3
    clear hfo3 hF3 ho3 hg3 hL
    go_wp2_with (at_builtin; go_loud (refine wpList_appS2 (by rfl) _ _ (by rfl) W3 B _ xs A2 n c2 Hfo3.out.s (by rfl) (by rfl) (by rfl) hxl hB3 ?_); intro v' w4 hown' hb4 hg4 hled; (have hol : OwnL w4 B (xs ++ [.slice A2 n c2]) (F ++ [L]) := by (have h1 := (Hfo3.out.l.append Hfo3.out.s hg4).snoc (A := A2) (l := L) (c := c2) (by (rw [HL.out]); exact World.ownsRow.kept Ho3.out hg4 (Ho3.out.apart Hfo3.out.s))); (rw [HL.out] at h1); exact h1); (obtain ⟨A5, c5, rfl, _⟩ := OwnS.forms hown' hol); (have hm : (F ++ [L]).length = F.length + 1 := by simp); (rw [hm] at hown' hled ⊢); (have hF4 : Fnd w4 f n (.slice AT n cA) E (.slice AV F.length cV) q := Blk.grown HF3.out hg4 (fun e => by have := (OwnS.up Hfo3.out.s f e.symm).1; omega)); (have d42 := hF4.c42); (have y42 := hF4.frozen 42); have Hown := Lib.hid hown'; have Hol := Lib.hid hol; have Hled := Lib.hid hled; have HF4 := Lib.hid hF4; have Hg4 := Lib.hid hg4; have Hb4 := Lib.hid hb4; clear hown' hol hled hF4 hg4 hb4 hm)
    refine bodyPost_ret (results_none rfl _ _ _) rfl ?_
    have hfr : FindFr f (.slice AV F.length cV) w (w4.setCell ⟨f, 42, none⟩ (.slice A5 (F.length + 1) c5)) :=
      (((((FindFr.of_grown Hg1.out).trans (Led.refl ..) (FindFr.of_below Hb2.out)).trans (Led.refl ..) (FindFr.of_grown Hg3.out)).trans (Led.refl ..) (FindFr.of_own Hg4.out)).trans (Led.refl ..) (FindFr.of_grown (grownBy_setCell _ _ _ _)))
    refine ⟨rfl, E, .slice A5 (F.length + 1) c5, xs ++ [.slice A2 n c2], ?_, ?_, ?_, hfr, (Led.refl w _).trans ?_ Hled.out⟩
    · rw [Hend.out, Hlen.out, Hq.out]; exact HF4.out.put42 _
    · exact ownsRow_far Hown.out (grownBy_setCell _ _ _ _) hfB
    · rw [Hend.out]; exact Hol.out.kept (grownBy_setCell _ _ _ _) hfB
    · exact Nat.le_trans Hg1.out.size (Nat.le_trans Hb2.out.size Hg3.out.size)
  case inl =>
    have hF2 : Fnd w2 f n (.slice AT n cA) E v false := Blk.below H1.out.fin hb2 (Blk.lt H1.out.fin)
    have hfo2 := Hfo1.out.below hb2
    have hvB : ∀ k, v.ownBlock = some k → B ≤ k ∧ k < w2.heap.size := OwnS.up hfo2.s
    have hfl2 : f < w2.heap.size := Blk.lt hF2
    have hfr2 : FindFr f v w1 w2 := FindFr.of_below hb2
    have ho40 : o < 40 := by omega
    have ho40' : (o : Int) < 40 := by omega
    have ho0 : (0 : Int) ≤ (o : Int) := by omega
    have hE14 := full_le H1.out.top
    have hbr : ∀ x, oneD x → (E o &&& x) ≠ 0 → sumD n (updN E o x) < s := fun x hx hz => by
      have h1 := branch_lt hx hz hno hon
      have h2 := sumD_le HsE.out n
      have h3 := Hs.out
      omega
    have hall := sol_split (l := l) hon hbef
    obtain ⟨brs, hbrs⟩ : ∃ brs, [branchL n l E o 2, branchL n l E o 4, branchL n l E o 8] = brs := ⟨_, rfl⟩
    have hfin : brs.flatten = solL n l D := by rw [← hbrs, ← Hsol.out, hall]; simp
    have hlen3 : brs.length = 3 := by rw [← hbrs]; rfl
    have hat : ∀ k (h : k < brs.length), brs[k] = branchL n l E o (2 ^ (k + 1)) := fun k h => by
      subst hbrs
      match k, h with
      | 0, _ => rfl
      | 1, _ => rfl
      | 2, _ => rfl
    have hstep : ∀ k, k < 3 → (brs.take (k + 1)).flatten = (brs.take k).flatten ++ branchL n l E o (2 ^ (k + 1)) := fun k h => by
      rw [List.take_succ_eq_append_getElem (by omega), List.flatten_append, hat]; simp
    have hzero : (brs.take 0).flatten = [] := by simp
    have hlast : (brs.take 3).flatten = solL n l D := by rw [List.take_of_length_le (by omega)]; exact hfin
    have HF2 := Lib.hid hF2; have Hfo2 := Lib.hid hfo2; have Hfr2 := Lib.hid hfr2; have HvB := Lib.hid hvB; have Hbr := Lib.hid hbr; have Hstep := Lib.hid hstep; have Hzero := Lib.hid hzero; have Hlast := Lib.hid hlast; have HE14 := Lib.hid hE14
    clear hF2 hfo2 hfr2 hvB hbr hstep hzero hlast hat hlen3 hfin hbrs hall hno hbef hb2 hE14 hne
    go_upto_region 6 with (first | (refine wpList_loadD (by rfl) _ (by rfl) (by rfl) (fun k hk => HF2.out.at_ hk) ?_) | (refine wpList_storeN (by rfl) _ _ (by rfl) (by rfl) (by rfl) (by rfl) ?_))
    obtain ⟨W3, hW3, kS, hb3, hs3⟩ : ∃ W3, w2.alloc (.cells (dC E) 82) = W3 ∧ Blk W3 w2.heap.size 82 (dC E) ∧ Below w2.heap.size w2 W3 ∧ W3.heap.size = w2.heap.size + 1 := ⟨_, rfl, Blk.new _ _ _, newB _ _, by simp⟩
    rw [hW3]
    clear hW3
    go_wp2_with fail
    obtain ⟨W4, hW4, kT, hb4, hs4⟩ : ∃ W4, W3.alloc (.cells #[.int .i64 2, .int .i64 4, .int .i64 8] 3) = W4 ∧ Blk W4 W3.heap.size 3 #[.int .i64 2, .int .i64 4, .int .i64 8] ∧ Below W3.heap.size W3 W4 ∧ W4.heap.size = W3.heap.size + 1 := ⟨_, rfl, Blk.new _ _ _, newB _ _, by simp⟩
    rw [hW4]
    clear hW4
    have kS4 := Blk.below kS hb4 (Blk.lt kS)
    have hF4 : Fnd W4 f n (.slice AT n cA) E v false := Blk.below (Blk.below HF2.out hb3 hfl2) hb4 (by omega)
    have hfo4 := (Hfo2.out.below hb3).below hb4
    have hb24 := endB hb3 hb4
    rw [hs3] at kT hs4
    generalize hSS : w2.heap.size = S at *
    clear kS hb3 hb4 hs3
    go_loopw [48] (fun j wr => ∃ (k : Nat) (v' : Value) (xs' : List Value), k ≤ 3 ∧ j = .int .i64 k ∧ Fnd wr f n (.slice AT n cA) E v' (decide ((capL 201 F (brs.take k).flatten).length = 201)) ∧ Fou wr B v' xs' (capL 201 F (brs.take k).flatten) ∧ FindFr f v W4 wr ∧ Led W4 v v') (fun j _ => 3 - (intOf j).toNat)
    case atStart => exact ⟨0, v, xs, Nat.zero_le _, rfl, by rw [Hzero.out, capL_nil hF, Hfb.out]; exact hF4, by rw [Hzero.out, capL_nil hF]; exact hfo4, FindFr.refl .., Led.refl ..⟩
    case round =>
      obtain ⟨k, v', xs', hk, rfl, hFk, hfk, hfr, hled⟩ := hrel
      clear hF4 hfo4
      have HFk := Lib.hid hFk; have Hfk := Lib.hid hfk; have Hfr := Lib.hid hfr; have Hled := Lib.hid hled
      clear hFk hfk hfr hled
      by_cases hk3 : k < 3
      case neg =>
        obtain rfl : k = 3 := by omega
        go_wp2_with fail
        first
          | refine bodyPost_ret (results_none rfl _ _ _) rfl ?_
          | refine bodyPost_end (results_none rfl _ _ _) rfl ?_
        have h1 := HFk.out; have h2 := Hfk.out
        rw [Hlast.out] at h1 h2
        have hfr : FindFr f v w wr := (((FindFr.of_grown Hg1.out).trans (Led.refl ..) Hfr2.out).trans (Led.refl ..) (FindFr.of_below (by rw [hSS]; exact hb24))).trans (Led.refl ..) Hfr.out
        have hle : w.heap.size ≤ W4.heap.size := Nat.le_trans Hg1.out.size (Nat.le_trans Hfr2.out.size (by omega))
        exact ⟨rfl, E, v', xs', h1, h2.s, h2.l, hfr, (Led.refl w v).trans hle Hled.out⟩
      case pos =>
      have hx1 : oneD (2 ^ (k + 1)) := by unfold oneD; have : k = 0 ∨ k = 1 ∨ k = 2 := by omega
                                          rcases this with h | h | h <;> subst h <;> decide
      have hvS : ∀ q, v.ownBlock = some q → q < S := fun q hq => (HvB.out q hq).2
      have hvS' : ∀ g, S ≤ g → some g ≠ v.ownBlock := fun g hg e => by have := hvS g e.symm; omega
      have hkT : Blk wr (S + 1) 3 #[.int .i64 2, .int .i64 4, .int .i64 8] := Hfr.out.blk kT (by omega) (hvS' _ (by omega))
      have hkS : Blk wr S 82 (dC E) := Hfr.out.blk kS4 (by omega) (hvS' _ (by omega))
      have hxv : (#[.int .i64 2, .int .i64 4, .int .i64 8] : Array Value)[k]? = some (.int .i64 ((2 ^ (k + 1) : Nat) : Int)) := by
        have : k = 0 ∨ k = 1 ∨ k = 2 := by omega
        rcases this with h | h | h <;> subst h <;> rfl
      have hcx : wr.cell? ⟨S + 1, k, none⟩ = some (.int .i64 ((2 ^ (k + 1) : Nat) : Int)) := by rw [Blk.cell hkT]; exact hxv
      have hcs : wr.cell? ⟨S, o, none⟩ = some (.int .i64 (E o : Int)) := by rw [Blk.cell hkS]; exact dC_at ho40
      obtain ⟨x, hx⟩ : ∃ x, 2 ^ (k + 1) = x := ⟨_, rfl⟩
      have hst := Hstep.out k hk3
      rw [hx] at hx1 hcx hst
      have hx14 : x ≤ 14 := by rcases hx1 with h | h | h <;> omega
      have hand := i64_and_small (HE14.out o) hx14
      have hk3' : (k : Int) < 3 := by omega
      have hk0' : (0 : Int) ≤ (k : Int) := by omega
      have Hst := Lib.hid hst; have Hx1 := Lib.hid hx1; have HkS := Lib.hid hkS
      clear hst hx1 hx hxv hkT hkS
      by_cases hz : (E o &&& x) = 0
      · have hzb : (((E o &&& x : Nat) : Int) != 0) = false := by rw [hz]; rfl
        have Hbr0 := Lib.hid (show branchL n l E o x = [] by unfold branchL; rw [if_neg (by rw [hz]; simp)])
        clear hz
        go_wp2_with fail
        go_roundw
        case rel => exact ⟨k + 1, v', xs', by omega, by go_num, by rw [Hst.out, Hbr0.out, List.append_nil]; exact HFk.out, by rw [Hst.out, Hbr0.out, List.append_nil]; exact Hfk.out, Hfr.out, Hled.out⟩
        case measure => simp [intOf]; omega
      · have hzb : (((E o &&& x : Nat) : Int) != 0) = true := by rw [bne_iff_ne]; omega
        have Hbr1 := Lib.hid (show branchL n l E o x = solL n l (updN E o x) by unfold branchL; rw [if_pos hz])
        have hlt := Hbr.out x Hx1.out hz
        have hsubx := branch_sub Hx1.out hz
        have Hlt := Lib.hid hlt; have Hsubx := Lib.hid hsubx
        clear hz hlt hsubx
        have hcf := HFk.out.at_ ho40
        have hzf := HFk.out.frozen (2 + o)
        go_wp2_with fail
        have hF5 := HFk.out.put ho40 x
        have hg5 := grownBy_setCell wr f (2 + o) (.int .i64 (x : Int))
        generalize wr.setCell ⟨f, 2 + o, none⟩ (.int .i64 (x : Int)) = w5 at hF5 hg5 ⊢
        have hfr5 : FindFr f v w1 w5 := ((Hfr2.out.trans (Led.refl ..) (FindFr.of_below (by rw [hSS]; exact hb24))).trans (Led.refl ..) Hfr.out).trans (Led.refl ..) (FindFr.of_grown hg5)
        have hst5 : FSt w5 f n B l AT cA (updN E o x) v' (decide ((capL 201 F (brs.take k).flatten).length = 201)) := H1.out.fr (Hsubx.out.trans H1.out.top) hF5 hfr5 fun g hg => (HvB.out g hg).1
        refine (ih (sumD n (updN E o x)) Hlt.out (updN E o x) v' xs' (capL 201 F (brs.take k).flatten) w5 (Nat.le_refl _) hst5 capL_len (Hfk.out.kept hg5 hfB)).mono ?_
        rintro e w6 ⟨rfl, D6, v6, xs6, hF6, hs6, hl6, hfr6, hled6⟩
        rw [capL_cap, ← Hbr1.out, ← Hst.out] at hF6 hl6
        have hS6 : Blk w6 S 82 (dC E) := hfr6.blk (Blk.grown HkS.out hg5 (by simp; omega)) (by omega) (fun e => by
          rcases Hled.out with h | h
          · exact hvS' S (Nat.le_refl _) (e.trans h)
          · have := h S e.symm; omega)
        have HF6 := Lib.hid hF6; have Hs6 := Lib.hid hs6; have Hl6 := Lib.hid hl6; have Hfr6 := Lib.hid hfr6; have Hled6 := Lib.hid hled6; have HS6 := Lib.hid hS6; have Hg5 := Lib.hid hg5
        clear hF5 hg5 hfr5 hst5 hF6 hs6 hl6 hfr6 hled6 hS6 hcf hzf hcx hcs
        go_wp2_with (first
          | (refine wpList_loadD (by rfl) _ (by rfl) (by rfl) (D := E) (fun j hj => by rw [Blk.cell HS6.out, Nat.zero_add]; exact dC_at hj) ?_)
          | (refine wpList_storeF (by rfl) _ _ (by rfl) HF6.out (E := E) (by rfl) (by rfl) ?_; intro w7 hF7 hg7))
        go_roundw
        case rel =>
          refine ⟨k + 1, v6, xs6, by omega, by go_num, hF7, ⟨ownsRow_far Hs6.out hg7 hfB, Hl6.out.kept hg7 hfB⟩, ?_, ?_⟩
          · exact ((Hfr.out.trans Hled.out (FindFr.of_grown Hg5.out)).trans Hled.out Hfr6.out).trans (Hled.out.trans (Nat.le_trans Hfr.out.size Hg5.out.size) Hled6.out) (FindFr.of_grown hg7)
          · exact Hled.out.trans (Nat.le_trans Hfr.out.size Hg5.out.size) Hled6.out
        case measure => simp [intOf]; omega
end Go.Proofs.YtcpombepajapjaaGreatDoor
