import Derived.Test.YtncimnfhfomddaaDoorNet
import Derived.BigQuiet
import Derived.Test.YtncimnfhfomddaaDoorGr
import Derived.Test.YtncimnfhfomddaaDoorSrtr
import Derived.Shelf.SlSortCmp.WholeK
import Derived.Laws.OwnMore
import Derived.Test.YtncimnfhfomddaaDoorLb
import Derived.Test.YtncimnfhfomddaaDoorGnd
import Derived.Deep.DeepCutAuto
import Derived.Laws.EntriesVeiled
/- The replies of the proponent, in plain words: no program in sight. -/
namespace Go.Proofs.YtncimnfhfomddaaDoor

/-- while the replies are gathered: R the nodes that are reached, O the replies, S the attackers that have one -/
structure AnI (n : Nat) (at_ : Nat → Nat → Bool) (pick : Nat → Nat) (P : Nat → Prop) (root : Nat) (R : List Nat) (O : List (Nat × Nat)) (S : Nat) : Prop where
  nd : R.Nodup
  root : root ∈ R
  ok : ∀ a ∈ R, a < n ∧ P a
  s : ∀ x, S.testBit x = true ↔ ∃ p ∈ O, p.1 = x
  no : O.Pairwise fun p q => p.1 ≠ q.1
  o : ∀ p ∈ O, p.2 = pick p.1 ∧ p.2 ∈ R ∧ p.1 < n ∧ ∃ a ∈ R, at_ p.1 a = true
/-- what the picks must be -/
def PickOk (n : Nat) (at_ : Nat → Nat → Bool) (pick : Nat → Nat) (P : Nat → Prop) : Prop := ∀ x a, a < n → P a → at_ x a = true → x < n ∧ pick x < n ∧ P (pick x)
section
variable {n root S : Nat} {at_ : Nat → Nat → Bool} {pick : Nat → Nat} {P : Nat → Prop} {R : List Nat} {O : List (Nat × Nat)}
theorem AnI.start (h : root < n) (hP : P root) : AnI n at_ pick P root [root] [] 0 where
  nd := by simp
  root := by simp
  ok := fun a ha => by rw [List.mem_singleton] at ha; subst ha; exact ⟨h, hP⟩
  s := fun x => by simp
  no := by simp
  o := fun p hp => by cases hp
/-- an attacker without a reply gets one -/
theorem AnI.more (h : AnI n at_ pick P root R O S) (hk : PickOk n at_ pick P) {x a : Nat} (ha : a ∈ R) (hx : at_ x a = true) (hs : S.testBit x = false) :
    AnI n at_ pick P root (if pick x ∈ R then R else R ++ [pick x]) (O ++ [(x, pick x)]) (S ||| 1 <<< x) := by
  have hp := hk x a (h.ok a ha).1 (h.ok a ha).2 hx
  have hsub : ∀ y ∈ R, y ∈ (if pick x ∈ R then R else R ++ [pick x]) := fun y hy => by
    split
    · exact hy
    · exact List.mem_append_left _ hy
  refine ⟨?_, hsub _ h.root, ?_, ?_, ?_, ?_⟩
  · split
    · exact h.nd
    · next e =>
      rw [List.nodup_append]
      refine ⟨h.nd, by simp, fun y hy z hz => ?_⟩
      rw [List.mem_singleton] at hz
      rintro rfl
      subst hz
      exact e hy
  · intro y hy
    split at hy
    · exact h.ok y hy
    · rw [List.mem_append, List.mem_singleton] at hy
      rcases hy with hy | rfl
      · exact h.ok y hy
      · exact hp.2
  · intro y
    rw [bit_with, Bool.or_eq_true, decide_eq_true_iff, h.s]
    constructor
    · rintro (⟨p, h1, h2⟩ | rfl)
      · exact ⟨p, List.mem_append_left _ h1, h2⟩
      · exact ⟨(y, pick y), by simp, rfl⟩
    · rintro ⟨p, h1, h2⟩
      rw [List.mem_append, List.mem_singleton] at h1
      rcases h1 with h1 | rfl
      · exact .inl ⟨p, h1, h2⟩
      · exact .inr h2.symm
  · rw [List.pairwise_append]
    refine ⟨h.no, by simp, fun p hp q hq => ?_⟩
    rw [List.mem_singleton] at hq
    subst hq
    intro e
    have := (h.s x).2 ⟨p, hp, e⟩
    rw [hs] at this; cases this
  · intro p hp'
    rw [List.mem_append, List.mem_singleton] at hp'
    rcases hp' with hp' | rfl
    · obtain ⟨h1, h2, h3, b, hb, h4⟩ := h.o p hp'
      exact ⟨h1, hsub _ h2, h3, b, hsub _ hb, h4⟩
    · refine ⟨rfl, ?_, hp.1, a, hsub _ ha, hx⟩
      show pick x ∈ _
      split
      · next e => exact e
      · simp
end
/-- the answer: all attackers of what is reached have a reply -/
structure AnOk (n : Nat) (at_ : Nat → Nat → Bool) (pick : Nat → Nat) (P : Nat → Prop) (root : Nat) (R : List Nat) (O : List (Nat × Nat)) : Prop where
  root : root ∈ R
  ok : ∀ a ∈ R, a < n ∧ P a
  all : ∀ a ∈ R, ∀ x, at_ x a = true → (x, pick x) ∈ O
  o : ∀ p ∈ O, p.2 = pick p.1 ∧ p.2 ∈ R ∧ p.1 < n ∧ ∃ a ∈ R, at_ p.1 a = true
  asc : O.Pairwise fun p q => p.1 < q.1
theorem AnI.done {n root S : Nat} {at_ : Nat → Nat → Bool} {pick : Nat → Nat} {P : Nat → Prop} {R : List Nat} {O O' : List (Nat × Nat)} (h : AnI n at_ pick P root R O S) (hd : ∀ j, j < R.length → ∀ x, at_ x (R.getD j 0) = true → S.testBit x = true) (hp : O'.Perm O) (hs : O'.Pairwise fun p q => p.1 ≤ q.1) : AnOk n at_ pick P root R O' where
  root := h.root
  ok := h.ok
  all := fun a ha x hx => by
    obtain ⟨j, hj, e⟩ := List.getElem_of_mem ha
    have e2 : R.getD j 0 = a := by rw [List.getD_eq_getElem?_getD, List.getElem?_eq_getElem hj]; exact e
    obtain ⟨p, h1, h2⟩ := (h.s x).1 (hd j hj x (by rw [e2]; exact hx))
    have h3 := (h.o p h1).1
    rw [h2] at h3
    rw [← h2, ← (h.o p h1).1]
    exact hp.mem_iff.2 h1
  o := fun p hp' => h.o p (hp.mem_iff.1 hp')
  asc := by
    have h1 : O'.Pairwise fun p q => p.1 ≠ q.1 := (hp.pairwise_iff (fun e => Ne.symm e)).2 h.no
    exact (hs.and h1).imp fun ⟨a, b⟩ => by omega
end Go.Proofs.YtncimnfhfomddaaDoor

/- Package game: the search of the credulous game. -/
namespace Go.Proofs.YtncimnfhfomddaaDoor
open Go.ChangeShapes Go.WideShapes Go.ChangeAt Go.RowKit

/-- a net by value -/
def netV (n : Nat) (B O : Option Addr) : Value := .agg #[.int .u64 ((allN n : Nat) : Int), .slice B n n, .slice O n n]
/-- the rows of a net -/
structure NetR (w : World) (n : Nat) (l : List (Int × Int)) (B O : Option Addr) : Prop where
  b : RU w B (byL n l)
  o : RU w O (outL n l)
theorem NetR.below {w w' : World} {n : Nat} {l : List (Int × Int)} {B O : Option Addr} (h : NetR w n l B O) (hb : Below w.heap.size w w') : NetR w' n l B O := ⟨h.b.below hb, h.o.below hb⟩
/-- the call tells whether a set was found, and the set -/
def RetSr (r : Option Nat) (w : World) : Ending → World → Prop := fun e w' => e = .returned (.tuple #[.int .u64 ((r.getD 0 : Nat) : Int), .bool r.isSome]) ∧ Below w.heap.size w w'
theorem netHitS_any {n : Nat} {l : List (Int × Int)} (hv : InR n l) {s : Nat} (hs : s < 2 ^ n) (B O : Option Addr) (w : World) (hT : Tab w) (hr : NetR w n l B O) :
    Calls Tryd.prog 110 #[.agg #[.int .u64 ((allN n : Nat) : Int), .slice B n n, .slice O n n], .int .u64 (s : Int)] w (RetB (.int .u64 ((orN (outL n l) (nodesB 64 s.testBit) : Nat) : Int)) w) := by
  have h := netHit_any (allN n) s B (byL n l) n O (outL n l) n w hT (u64_of hv.1 hs) (fun j e => by rw [outL_length]; exact bit_lt hs e) hr.o (outL_lt hv)
  rwa [byL_length, outL_length] at h
theorem netFoeS_any {n : Nat} {l : List (Int × Int)} (hv : InR n l) {s : Nat} (hs : s < 2 ^ n) (B O : Option Addr) (w : World) (hT : Tab w) (hr : NetR w n l B O) :
    Calls Tryd.prog 118 #[.agg #[.int .u64 ((allN n : Nat) : Int), .slice B n n, .slice O n n], .int .u64 (s : Int)] w (RetB (.int .u64 ((orN (byL n l) (nodesB 64 s.testBit) : Nat) : Int)) w) := by
  have h := netFoe_any (allN n) s B (byL n l) n O (outL n l) n w hT (u64_of hv.1 hs) (fun j e => by rw [byL_length]; exact bit_lt hs e) hr.b (byL_lt hv)
  rwa [byL_length, outL_length] at h
theorem netFreeS_any {n : Nat} {l : List (Int × Int)} (hv : InR n l) {s : Nat} (hs : s < 2 ^ n) (B O : Option Addr) (w : World) (hT : Tab w) (hr : NetR w n l B O) :
    Calls Tryd.prog 117 #[.agg #[.int .u64 ((allN n : Nat) : Int), .slice B n n, .slice O n n], .int .u64 (s : Int)] w (RetB (.bool (freeS n (attQ l) s)) w) := by
  have h := netFree_any (allN n) s B (byL n l) n O (outL n l) n w hT (u64_of hv.1 hs) (fun j e => by rw [outL_length]; exact bit_lt hs e) hr.o (outL_lt hv)
  rwa [byL_length, outL_length, free_bit hv hs] at h
theorem boxedN (w : World) (t : TypeId) (x y z : Value) : ∃ W0, w.alloc (.cells #[x, y, z] t) = W0 ∧ Blk W0 w.heap.size t #[x, y, z] ∧ Below w.heap.size w W0 ∧ W0.heap.size = w.heap.size + 1 := ⟨_, rfl, Blk.new _ _ _, newB _ _, by simp⟩
theorem firstSome_drop {f : Nat → Option Nat} {l : List Nat} {k : Nat} (h : k < l.length) : firstSome f (l.drop k) = match f l[k] with | some v => some v | none => firstSome f (l.drop (k + 1)) := by
  rw [List.drop_eq_getElem_cons h]; rfl

set_option maxRecDepth 100000 in
set_option maxHeartbeats 4000000 in
theorem gSearch_any {n : Nat} {l : List (Int × Int)} (hv : InR n l) (B O : Option Addr) : ∀ (k s : Nat) (w : World), s < 2 ^ n → n < k + cntS n s → Tab w → NetR w n l B O →
    Calls Tryd.prog 77 #[.agg #[.int .u64 ((allN n : Nat) : Int), .slice B n n, .slice O n n], .int .u64 (s : Int)] w (RetSr (srS n (attQ l) k s) w) := by
  intro k
  induction k with
  | zero => intro s w hs hk; exact absurd hk (by have := cntS_le n s; omega)
  | succ k ih =>
  intro s w hs hk hT hr
  have hn := hv.1
  have hsu := u64_of hn hs
  have hb64 := orN_lt64 hv s
  have hopen := open_bit hv hs
  have hmin := u64_minus _ _ hb64.2 hb64.1
  have hml := fun W (hTW : Tab W) => netList_any (minusN (orN (byL n l) (nodesB 64 s.testBit)) (orN (outL n l) (nodesB 64 s.testBit))) (Nat.lt_of_le_of_lt (minusN_le _ _) hb64.2) W hTW
  rw [hopen] at hml
  have hfr := fun W hTW hrW => netFreeS_any hv hs B O W hTW hrW
  have hfo := fun W hTW hrW => netFoeS_any hv hs B O W hTW hrW
  have hhi := fun W hTW hrW => netHitS_any hv hs B O W hTW hrW
  have hsr : srS n (attQ l) (k + 1) s = if freeS n (attQ l) s = true then (match openS n (attQ l) s with | [] => some s | x :: _ => firstSome (fun y => srS n (attQ l) k (s ||| 1 <<< y)) ((List.range n).filter fun y => attQ l y x)) else none := rfl
  generalize hF : orN (byL n l) (nodesB 64 s.testBit) = F at hmin hml hfo
  generalize hH : orN (outL n l) (nodesB 64 s.testBit) = H at hmin hml hhi
  generalize hop : openS n (attQ l) s = op at hml hsr
  have hopr : ∀ x ∈ op, ∃ y < n, s.testBit y = true ∧ attQ l x y = true ∧ x < n ∧ ∀ i, i < n → s.testBit i = true → attQ l i x = false := fun x hx => by
    rw [← hop] at hx
    unfold openS at hx
    rw [List.mem_filter, List.mem_range, Bool.and_eq_true, Bool.not_eq_true'] at hx
    obtain ⟨i, hi, si, e⟩ := foeS_iff.1 hx.2.1
    refine ⟨i, hi, si, e, hx.1, fun j hj sj => ?_⟩
    cases e2 : attQ l j x
    · rfl
    · rw [hitX_iff.2 ⟨j, hj, sj, e2⟩] at hx; cases hx.2.2
  generalize hfb : freeS n (attQ l) s = fb at hfr hsr
  have Hopl : Hid (op.length ≤ 1000) := Lib.hid (by rw [← hop]; unfold openS; have := List.length_filter_le (fun j => foeS n (attQ l) s j && !hitX n (attQ l) s j) (List.range n); simp at this; omega)
  have Hfr := Lib.hid hfr; have Hfo := Lib.hid hfo; have Hhi := Lib.hid hhi; have Hmin := Lib.hid hmin; have Hml := Lib.hid hml; have Hsr := Lib.hid hsr; have Hopr := Lib.hid hopr; have Hk := Lib.hid hk; have Hs := Lib.hid hs
  clear hfr hfo hhi hmin hml hsr hopr hF hH hop hfb hb64 hopen hk hs
  have hopl := Hopl.out
  go_enter Tryd.func77, Tryd.ntmps77
  go_upto_region 1 with fail
  obtain ⟨W0, hW, kn, hb0, hs0⟩ := boxedN w 97 (.int .u64 ((allN n : Nat) : Int)) (.slice B n n) (.slice O n n)
  rw [hW]
  have hr0 := hr.below hb0
  have hT0 := hT.below hb0
  have c0 := kn.cell 0; have c1 := kn.cell 1; have c2 := kn.cell 2
  have hgl := kn.lt
  clear hW hr hT kn
  go_wp2_with fail
  refine (Hfr.out W0 hT0 hr0).mono ?_
  rintro e w1 ⟨rfl, hb1⟩
  cases fb
  case false =>
    have H := Lib.hid (show srS n (attQ l) (k + 1) s = none from Hsr.out)
    go_wp2_with fail
    go_ret2
    exact ⟨by rw [H.out]; rfl, endB hb0 hb1⟩
  case true =>
  have hsr2 := Hsr.out
  rw [if_pos rfl] at hsr2
  have Hsr2 := Lib.hid hsr2
  have d0 := (hb1.cell (lt_of_cell c0)).trans c0; have d1 := (hb1.cell (lt_of_cell c1)).trans c1; have d2 := (hb1.cell (lt_of_cell c2)).trans c2
  have hr1 := hr0.below hb1
  have hT1 := hT0.below hb1
  have hb01 := endB hb0 hb1
  have hg1 := Nat.lt_of_lt_of_le hgl hb1.size
  clear c0 c1 c2 hr0 hT0 hb0 hb1 hsr2 Hsr hs0 hgl
  go_wp2_with fail
  refine wp_region_textB [2, 5, 6, 7] (fun w' => Below w1.heap.size w1 w') (fun _ => True) (by kernel_rfl) (by kernel_rfl) (by kernel_rfl) (Below.refl _ _).drew trivial ?_
  repeat (first
    | (refine TxtBL.skip (by rfl) ?_; simp only [Act.put, List.setIfInBounds_toArray, List.set_cons_zero, List.set_cons_succ])
    | (refine TxtBL.take (by rfl) (by rfl) ?_; apply Exists.intro; refine ⟨fun w1 hS1 => ?_, ?_⟩; (focus ((have g0 := (hS1.cell (lt_of_cell d0)).trans d0); (have g1 := (hS1.cell (lt_of_cell d1)).trans d1); (have g2 := (hS1.cell (lt_of_cell d2)).trans d2); go_simp; with_reducible rfl)); simp only [Act.put, List.setIfInBounds_toArray, List.set_cons_zero, List.set_cons_succ])
    | (refine TxtBL.takeE (by rfl) (by rfl) ?_; apply Exists.intro; refine ⟨fun w1 hS1 => ?_, ?_⟩; (focus ((have g0 := (hS1.cell (lt_of_cell d0)).trans d0); (have g1 := (hS1.cell (lt_of_cell d1)).trans d1); (have g2 := (hS1.cell (lt_of_cell d2)).trans d2); go_simp; with_reducible rfl)); simp only [Act.put, List.setIfInBounds_toArray, List.set_cons_zero, List.set_cons_succ]))
  refine TxtBL.call (f := 118) (args := #[.agg #[.int .u64 ((allN n : Nat) : Int), .slice B n n, .slice O n n], .int .u64 (s : Int)]) (fun u => u = .int .u64 (F : Int)) (fun _ _ => True) (by rfl) (by rfl) ⟨_, rfl⟩ (fun w1 hS1 hJ1 => by go_simp) (fun w2 hS2 hJ1 => ?_) ?_
  · refine (Hfo.out w2 (hT1.below hS2) (hr1.below hS2)).mono ?_
    rintro e w' ⟨rfl, hb⟩
    exact ⟨_, rfl, hS2.trans (hb.mono hS2.size), rfl, trivial⟩
  rintro _ rfl
  simp only [Act.put, List.setIfInBounds_toArray, List.set_cons_zero, List.set_cons_succ]
  repeat (first
    | (refine TxtBL.skip (by rfl) ?_; simp only [Act.put, List.setIfInBounds_toArray, List.set_cons_zero, List.set_cons_succ])
    | (refine TxtBL.take (by rfl) (by rfl) ?_; apply Exists.intro; refine ⟨fun w1 hS1 => ?_, ?_⟩; (focus ((have g0 := (hS1.cell (lt_of_cell d0)).trans d0); (have g1 := (hS1.cell (lt_of_cell d1)).trans d1); (have g2 := (hS1.cell (lt_of_cell d2)).trans d2); go_simp; with_reducible rfl)); simp only [Act.put, List.setIfInBounds_toArray, List.set_cons_zero, List.set_cons_succ])
    | (refine TxtBL.takeE (by rfl) (by rfl) ?_; apply Exists.intro; refine ⟨fun w1 hS1 => ?_, ?_⟩; (focus ((have g0 := (hS1.cell (lt_of_cell d0)).trans d0); (have g1 := (hS1.cell (lt_of_cell d1)).trans d1); (have g2 := (hS1.cell (lt_of_cell d2)).trans d2); go_simp; with_reducible rfl)); simp only [Act.put, List.setIfInBounds_toArray, List.set_cons_zero, List.set_cons_succ]))
  refine TxtBL.call (f := 110) (args := #[.agg #[.int .u64 ((allN n : Nat) : Int), .slice B n n, .slice O n n], .int .u64 (s : Int)]) (fun u => u = .int .u64 (H : Int)) (fun _ _ => True) (by rfl) (by rfl) ⟨_, rfl⟩ (fun w1 hS1 hJ1 => by go_simp) (fun w2 hS2 hJ1 => ?_) ?_
  · refine (Hhi.out w2 (hT1.below hS2) (hr1.below hS2)).mono ?_
    rintro e w' ⟨rfl, hb⟩
    exact ⟨_, rfl, hS2.trans (hb.mono hS2.size), rfl, trivial⟩
  rintro _ rfl
  simp only [Act.put, List.setIfInBounds_toArray, List.set_cons_zero, List.set_cons_succ]
  repeat (first
    | (refine TxtBL.skip (by rfl) ?_; simp only [Act.put, List.setIfInBounds_toArray, List.set_cons_zero, List.set_cons_succ])
    | (refine TxtBL.take (by rfl) (by rfl) ?_; apply Exists.intro; refine ⟨fun w1 hS1 => ?_, ?_⟩; (focus (skip; go_simp; with_reducible rfl)); simp only [Act.put, List.setIfInBounds_toArray, List.set_cons_zero, List.set_cons_succ])
    | (refine TxtBL.takeE (by rfl) (by rfl) ?_; apply Exists.intro; refine ⟨fun w1 hS1 => ?_, ?_⟩; (focus (skip; go_simp; with_reducible rfl)); simp only [Act.put, List.setIfInBounds_toArray, List.set_cons_zero, List.set_cons_succ]))
  rw [Hmin.out]
  refine TxtBL.call (f := 64) (args := #[.int .u64 ((minusN F H : Nat) : Int)]) (fun u => ∃ A c, u = .slice A op.length c) (fun u w' => ∀ A c, u = .slice A op.length c → RI w' A (op.map Int.ofNat)) (by rfl) (by rfl) ⟨_, none, 0, rfl⟩ (fun w1 hS1 hJ1 => by go_simp) (fun w2 hS2 hJ1 => ?_) ?_
  · refine (Hml.out w2 (hT1.below hS2)).mono ?_
    rintro e w' ⟨A', c', rfl, _, hri, _, hb⟩
    rw [List.length_map]
    refine ⟨_, rfl, hS2.trans (hb.mono hS2.size), ⟨A', c', rfl⟩, fun A c e => ?_⟩
    injection e with e1 e2 e3; subst e1; exact hri
  rintro _ ⟨A6, c6, rfl⟩
  simp only [Act.put, List.setIfInBounds_toArray, List.set_cons_zero, List.set_cons_succ]
  repeat (first
    | (refine TxtBL.skip (by rfl) ?_; simp only [Act.put, List.setIfInBounds_toArray, List.set_cons_zero, List.set_cons_succ])
    | (refine TxtBL.take (by rfl) (by rfl) ?_; apply Exists.intro; refine ⟨fun w1 hS1 => ?_, ?_⟩; (focus (skip; go_simp; with_reducible rfl)); simp only [Act.put, List.setIfInBounds_toArray, List.set_cons_zero, List.set_cons_succ])
    | (refine TxtBL.takeE (by rfl) (by rfl) ?_; apply Exists.intro; refine ⟨fun w1 hS1 => ?_, ?_⟩; (focus (skip; go_simp; with_reducible rfl)); simp only [Act.put, List.setIfInBounds_toArray, List.set_cons_zero, List.set_cons_succ]))
  refine TxtBL.nil (fun W2 hS2 hJ2 => ?_)
  have hri := hJ2 _ _ rfl
  clear hJ2
  have e1 := (hS2.cell (lt_of_cell d1)).trans d1
  have e0 := (hS2.cell (lt_of_cell d0)).trans d0; have e2 := (hS2.cell (lt_of_cell d2)).trans d2
  have hr2 := hr1.below hS2; have hT2 := hT1.below hS2
  have hb2 := endB hb01 hS2
  clear d0 d1 d2 hr1 hT1 hS2 hb01
  cases op with
  | nil =>
    have H := Lib.hid (show srS n (attQ l) (k + 1) s = some s from Hsr2.out)
    go_wp2_with fail
    go_ret2
    exact ⟨by rw [H.out]; rfl, hb2⟩
  | cons x t =>
  obtain ⟨_, -, -, -, hxn, hxs⟩ := Hopr.out x (by simp)
  obtain ⟨b, o, rfl, hc⟩ := hri.at_ (k := 0) (by simp)
  have hxI : (x : Int) < (n : Int) := by omega
  have hx0 : (0 : Int) ≤ (x : Int) := by omega
  simp only [List.map_cons, List.getElem_cons_zero, Nat.add_zero, Int.ofNat_eq_natCast] at hc
  obtain ⟨b2, o2, rfl, hc2⟩ := hr2.b x (by rw [byL_length]; exact hxn)
  have hlist := netList_any ((byL n l).getD x 0) (by rw [byL_at hxn]; exact u64_of hn (mk_pow (inR_flip hv) x))
  rw [by_bit hv hxn] at hlist
  have hsr3 : srS n (attQ l) (k + 1) s = firstSome (fun y => srS n (attQ l) k (s ||| 1 <<< y)) ((List.range n).filter fun y => attQ l y x) := Hsr2.out
  have hys : ∀ y ∈ (List.range n).filter (fun y => attQ l y x), y < n ∧ s.testBit y = false := fun y hy => by
    rw [List.mem_filter, List.mem_range] at hy
    refine ⟨hy.1, ?_⟩
    cases e : s.testBit y
    · rfl
    · rw [hxs y hy.1 e] at hy; cases hy.2
  have hyl : ((List.range n).filter (fun y => attQ l y x)).length ≤ 1000 := by have := List.length_filter_le (fun y => attQ l y x) (List.range n); simp at this; omega
  generalize (List.range n).filter (fun y => attQ l y x) = ys at *
  have hrec : ∀ y ∈ ys, ∀ W, Tab W → NetR W n l (some ⟨b2, o2, none⟩) O → Calls Tryd.prog 77 #[.agg #[.int .u64 ((allN n : Nat) : Int), .slice (some ⟨b2, o2, none⟩) n n, .slice O n n], .int .u64 ((s ||| 1 <<< y : Nat) : Int)] W (RetSr (srS n (attQ l) k (s ||| 1 <<< y)) W) := fun y hy W hTW hrW => by
    obtain ⟨h1, h2⟩ := hys y hy
    refine ih _ W (with_lt Hs.out h1) ?_ hTW hrW
    rw [cntS_with h2, if_pos h1]; have := Hk.out; omega
  have hwith : ∀ y ∈ ys, ∀ W, Calls Tryd.prog 65 #[.int .u64 (s : Int), .int .i64 (y : Int)] W (Ret (.int .u64 ((s ||| 1 <<< y : Nat) : Int)) W) := fun y hy W => netWith_any s y hsu (by have := (hys y hy).1; omega) W
  generalize hfg : (fun y => srS n (attQ l) k (s ||| 1 <<< y)) = f at hsr3
  have hrec2 : ∀ y ∈ ys, ∀ W, Tab W → NetR W n l (some ⟨b2, o2, none⟩) O → Calls Tryd.prog 77 #[.agg #[.int .u64 ((allN n : Nat) : Int), .slice (some ⟨b2, o2, none⟩) n n, .slice O n n], .int .u64 ((s ||| 1 <<< y : Nat) : Int)] W (RetSr (f y) W) := by rw [← hfg]; exact hrec
  have Hlist := Lib.hid hlist; have Hsr3 := Lib.hid hsr3; have Hrec := Lib.hid hrec2; have Hwith := Lib.hid hwith
  have htl : (0 : Int) < ((t.length : Int) + 1) := by omega
  clear hlist hsr3 hrec hrec2 hwith hys hfg Hsr2 Hopr Hfr Hfo Hhi Hmin Hml ih hxs hri hsu Hopl hopl
  go_wp2_with fail
  refine wp_region_textB [7] (fun w' => Below W2.heap.size W2 w') (fun _ => True) (by kernel_rfl) (by kernel_rfl) (by kernel_rfl) (Below.refl _ _).drew trivial ?_
  repeat (first
    | (refine TxtBL.skip (by rfl) ?_; simp only [Act.put, List.setIfInBounds_toArray, List.set_cons_zero, List.set_cons_succ])
    | (refine TxtBL.take (by rfl) (by rfl) ?_; apply Exists.intro; refine ⟨fun w1 hS1 => ?_, ?_⟩; (focus ((have g1 := (hS1.cell (lt_of_cell e1)).trans e1); (have g2 := (hS1.cell (lt_of_cell hc)).trans hc); (have g3 := (hS1.cell (lt_of_cell hc2)).trans hc2); go_simp; with_reducible rfl)); simp only [Act.put, List.setIfInBounds_toArray, List.set_cons_zero, List.set_cons_succ])
    | (refine TxtBL.takeE (by rfl) (by rfl) ?_; apply Exists.intro; refine ⟨fun w1 hS1 => ?_, ?_⟩; (focus ((have g1 := (hS1.cell (lt_of_cell e1)).trans e1); (have g2 := (hS1.cell (lt_of_cell hc)).trans hc); (have g3 := (hS1.cell (lt_of_cell hc2)).trans hc2); go_simp; with_reducible rfl)); simp only [Act.put, List.setIfInBounds_toArray, List.set_cons_zero, List.set_cons_succ]))
  refine TxtBL.call (f := 64) (args := #[.int .u64 (((byL n l).getD x 0 : Nat) : Int)]) (fun u => ∃ A c, u = .slice A ys.length c) (fun u w' => ∀ A c, u = .slice A ys.length c → RI w' A (ys.map Int.ofNat)) (by rfl) (by rfl) ⟨_, none, 0, rfl⟩ (fun w1 hS1 hJ1 => by go_simp) (fun w2 hS2 hJ1 => ?_) ?_
  · refine (Hlist.out w2 (hT2.below hS2)).mono ?_
    rintro e w' ⟨A', c', rfl, _, hri, _, hb⟩
    rw [List.length_map]
    refine ⟨_, rfl, hS2.trans (hb.mono hS2.size), ⟨A', c', rfl⟩, fun A c e => ?_⟩
    injection e with e1 e2 e3; subst e1; exact hri
  rintro _ ⟨A7, c7, rfl⟩
  simp only [Act.put, List.setIfInBounds_toArray, List.set_cons_zero, List.set_cons_succ]
  repeat (first
    | (refine TxtBL.skip (by rfl) ?_; simp only [Act.put, List.setIfInBounds_toArray, List.set_cons_zero, List.set_cons_succ])
    | (refine TxtBL.take (by rfl) (by rfl) ?_; apply Exists.intro; refine ⟨fun w1 hS1 => ?_, ?_⟩; (focus (skip; go_simp; with_reducible rfl)); simp only [Act.put, List.setIfInBounds_toArray, List.set_cons_zero, List.set_cons_succ])
    | (refine TxtBL.takeE (by rfl) (by rfl) ?_; apply Exists.intro; refine ⟨fun w1 hS1 => ?_, ?_⟩; (focus (skip; go_simp; with_reducible rfl)); simp only [Act.put, List.setIfInBounds_toArray, List.set_cons_zero, List.set_cons_succ]))
  refine TxtBL.nil (fun W3 hS3 hJ3 => ?_)
  have hri := hJ3 _ _ rfl
  clear hJ3
  have f1 := (hS3.cell (lt_of_cell e1)).trans e1
  have f0 := (hS3.cell (lt_of_cell e0)).trans e0; have f2 := (hS3.cell (lt_of_cell e2)).trans e2
  have hr3 := hr2.below hS3; have hT3 := hT2.below hS3
  have hb3 := endB hb2 hS3
  have hbw := hb3.size
  clear e0 e1 e2 hr2 hT2 hS3 hb2 hc hc2 Hlist htl
  go_wp2_with fail
  go_loopw [36] (fun u wr => ∃ q : Nat, q ≤ ys.length ∧ u = .int .i64 q ∧ firstSome f ys = firstSome f (ys.drop q) ∧ Below W3.heap.size W3 wr) (fun u _ => ys.length - (intOf u).toNat)
  case atStart => exact ⟨0, Nat.zero_le _, rfl, rfl, Below.refl _ _⟩
  case round =>
    obtain ⟨q, hq, rfl, hfs, hbl⟩ := hrel
    have Hfs := Lib.hid hfs
    clear hfs
    have m1 := (hbl.cell (lt_of_cell f1)).trans f1
    have m0 := (hbl.cell (lt_of_cell f0)).trans f0; have m2 := (hbl.cell (lt_of_cell f2)).trans f2
    by_cases hlt : q < ys.length
    case neg =>
      have H := Lib.hid (show srS n (attQ l) (k + 1) s = none by rw [Hsr3.out, Hfs.out, List.drop_of_length_le (by omega)]; rfl)
      go_wp2_with fail
      go_ret2
      exact ⟨by rw [H.out]; rfl, endB hb3 hbl⟩
    case pos =>
    obtain ⟨b3, o3, rfl, hc3⟩ := hri.at_ (k := q) (by rw [List.length_map]; exact hlt)
    rw [List.getElem_map, Int.ofNat_eq_natCast] at hc3
    have hc4 := (hbl.cell (lt_of_cell hc3)).trans hc3
    have hstep := firstSome_drop (f := f) hlt
    have hwi := Hwith.out ys[q] (List.getElem_mem _)
    have hre := Hrec.out ys[q] (List.getElem_mem _)
    generalize ys[q] = y at *
    have Hwi := Lib.hid hwi; have Hre := Lib.hid hre; have Hstep := Lib.hid hstep
    clear hwi hre hstep hc3
    go_wp2_with fail
    refine wp_region_textB [3, 4] (fun w' => Below wr.heap.size wr w') (fun _ => True) (by kernel_rfl) (by kernel_rfl) (by kernel_rfl) (Below.refl _ _).drew trivial ?_
    repeat (first
      | (refine TxtBL.skip (by rfl) ?_; simp only [Act.put, List.setIfInBounds_toArray, List.set_cons_zero, List.set_cons_succ])
      | (refine TxtBL.take (by rfl) (by rfl) ?_; apply Exists.intro; refine ⟨fun w1 hS1 => ?_, ?_⟩; (focus ((have g0 := (hS1.cell (lt_of_cell m0)).trans m0); (have g1 := (hS1.cell (lt_of_cell m1)).trans m1); (have g2 := (hS1.cell (lt_of_cell m2)).trans m2); go_simp; with_reducible rfl)); simp only [Act.put, List.setIfInBounds_toArray, List.set_cons_zero, List.set_cons_succ])
      | (refine TxtBL.takeE (by rfl) (by rfl) ?_; apply Exists.intro; refine ⟨fun w1 hS1 => ?_, ?_⟩; (focus ((have g0 := (hS1.cell (lt_of_cell m0)).trans m0); (have g1 := (hS1.cell (lt_of_cell m1)).trans m1); (have g2 := (hS1.cell (lt_of_cell m2)).trans m2); go_simp; with_reducible rfl)); simp only [Act.put, List.setIfInBounds_toArray, List.set_cons_zero, List.set_cons_succ]))
    refine TxtBL.call (f := 65) (args := #[.int .u64 (s : Int), .int .i64 (y : Int)]) (fun u => u = .int .u64 ((s ||| 1 <<< y : Nat) : Int)) (fun _ _ => True) (by rfl) (by rfl) ⟨_, rfl⟩ (fun w1 hS1 hJ1 => by go_simp) (fun w2 hS2 hJ1 => ?_) ?_
    · refine (Hwi.out w2).mono ?_
      rintro e w' ⟨rfl, rfl⟩
      exact ⟨_, rfl, hS2, rfl, trivial⟩
    rintro _ rfl
    simp only [Act.put, List.setIfInBounds_toArray, List.set_cons_zero, List.set_cons_succ]
    repeat (first
      | (refine TxtBL.skip (by rfl) ?_; simp only [Act.put, List.setIfInBounds_toArray, List.set_cons_zero, List.set_cons_succ])
      | (refine TxtBL.take (by rfl) (by rfl) ?_; apply Exists.intro; refine ⟨fun w1 hS1 => ?_, ?_⟩; (focus (skip; go_simp; with_reducible rfl)); simp only [Act.put, List.setIfInBounds_toArray, List.set_cons_zero, List.set_cons_succ])
      | (refine TxtBL.takeE (by rfl) (by rfl) ?_; apply Exists.intro; refine ⟨fun w1 hS1 => ?_, ?_⟩; (focus (skip; go_simp; with_reducible rfl)); simp only [Act.put, List.setIfInBounds_toArray, List.set_cons_zero, List.set_cons_succ]))
    refine TxtBL.call (f := 77) (args := #[.agg #[.int .u64 ((allN n : Nat) : Int), .slice (some ⟨b2, o2, none⟩) n n, .slice O n n], .int .u64 ((s ||| 1 <<< y : Nat) : Int)]) (fun u => u = .tuple #[.int .u64 (((f y).getD 0 : Nat) : Int), .bool (f y).isSome]) (fun _ _ => True) (by rfl) (by rfl) ⟨_, rfl⟩ (fun w1 hS1 hJ1 => by go_simp) (fun w2 hS2 hJ1 => ?_) ?_
    · refine (Hre.out w2 ((hT3.below hbl).below hS2) ((hr3.below hbl).below hS2)).mono ?_
      rintro e w' ⟨rfl, hb⟩
      exact ⟨_, rfl, hS2.trans (hb.mono hS2.size), rfl, trivial⟩
    rintro _ rfl
    simp only [Act.put, List.setIfInBounds_toArray, List.set_cons_zero, List.set_cons_succ]
    repeat (first
      | (refine TxtBL.skip (by rfl) ?_; simp only [Act.put, List.setIfInBounds_toArray, List.set_cons_zero, List.set_cons_succ])
      | (refine TxtBL.take (by rfl) (by rfl) ?_; apply Exists.intro; refine ⟨fun w1 hS1 => ?_, ?_⟩; (focus (skip; go_simp; with_reducible rfl)); simp only [Act.put, List.setIfInBounds_toArray, List.set_cons_zero, List.set_cons_succ])
      | (refine TxtBL.takeE (by rfl) (by rfl) ?_; apply Exists.intro; refine ⟨fun w1 hS1 => ?_, ?_⟩; (focus (skip; go_simp; with_reducible rfl)); simp only [Act.put, List.setIfInBounds_toArray, List.set_cons_zero, List.set_cons_succ]))
    refine TxtBL.nil (fun W4 hS4 _ => ?_)
    have hb4 := hbl.trans (hS4.mono hbl.size)
    obtain ⟨fy, hfy⟩ : ∃ fy, f y = fy := ⟨_, rfl⟩
    have hstep := Hstep.out
    rw [hfy] at hstep ⊢
    cases fy with
    | some v =>
      have H := Lib.hid (show srS n (attQ l) (k + 1) s = some v by rw [Hsr3.out, Hfs.out, hstep])
      have Hb := Lib.hid (endB hb3 hb4)
      clear hstep m0 m1 m2 hb4 hS4 hbl hfy
      go_wp2_with fail
      go_ret2
      exact ⟨by rw [H.out]; rfl, Hb.out⟩
    | none =>
      have H := Lib.hid (hstep : firstSome f (ys.drop q) = firstSome f (ys.drop (q + 1)))
      have Hb := Lib.hid hb4
      clear hstep m0 m1 m2 hb4 hS4 hbl hfy
      go_wp2_with fail
      go_roundw
      case rel => exact ⟨q + 1, by omega, by go_num, Hfs.out.trans H.out, Hb.out⟩
      case measure => simp [intOf]; omega
end Go.Proofs.YtncimnfhfomddaaDoor

/- Rows of replies: an append, and the library's sort. -/
namespace Go.Proofs.YtncimnfhfomddaaDoor
open Go.ChangeShapes Go.WideShapes Go.ChangeAt Go.RowKit

theorem info_rp : (Tryd.prog.info? 106).map (fun i => (i.zero, i.size, i.bytes)) = some (some (.agg #[.int .i64 0, .int .i64 0]), 2, 16) := by kernel_rfl
/-- the slice v, made by the call, holds the replies of the list -/
def OwnR (w : World) (base : Nat) (v : Value) (l : List (Int × Int)) : Prop := w.ownsRow base 106 2 v l.length (flatP l)
theorem OwnR.nil (w : World) (base : Nat) : OwnR w base (.slice none 0 0) [] := World.ownsRow_nil w base _ _
theorem OwnR.below {w w' : World} {b : Nat} {v : Value} {l : List (Int × Int)} (h : OwnR w b v l) (hb : Below w.heap.size w w') : OwnR w' b v l := ownsRow_below h hb
theorem OwnR.mono {w : World} {b b' : Nat} {v : Value} {l : List (Int × Int)} (h : OwnR w b v l) (hb : b' ≤ b) : OwnR w b' v l := ownsRow_mono h hb
theorem OwnR.form {w : World} {b : Nat} {v : Value} {l : List (Int × Int)} (h : OwnR w b v l) : (v = .slice none 0 0 ∧ l = []) ∨ ∃ g c, v = .slice (some ⟨g, 0, none⟩) l.length c ∧ b ≤ g ∧ g < w.heap.size := by
  have h' := h
  obtain ⟨h1, h2⟩ := h
  rcases h2 with ⟨rfl, hn⟩ | ⟨g, cap, cur, rfl, hg, r⟩
  · exact .inl ⟨rfl, List.eq_nil_of_length_eq_zero hn⟩
  · exact .inr ⟨g, cap, rfl, hg, (World.ownsRow.lt h' g rfl).2⟩
set_option maxRecDepth 100000 in
/-- 'out = append(out, m)': of a reply; the result lies where out lay, or in a new block -/
theorem wpList_appR2 {ops : Array Oper} {rest : List Oper} {o : Oper} {a : Act} {Q : Exit → Act → World → Prop} (hgd : o.guard = none) (s x : Operand)
    (ho : o.op = .call { callee := .builtin .append, args := #[s, x], argTypes := #[62, 62] })
    (X : World) (base : Nat) (v : Value) (l : List (Int × Int)) (m : Int × Int) (hown : OwnR X base v l) (hs : a.eval s = v) (hx : a.eval x = .slice (some ⟨X.heap.size, 0, none⟩) 1 1)
    (hlen : l.length ≤ 1000000) (hbase : base ≤ X.heap.size)
    (h : ∀ v' w', OwnR w' base v' (l ++ [m]) → Below base X w' → X.grownBy w' v.ownBlock → (v'.ownBlock = v.ownBlock ∨ ∀ k, v'.ownBlock = some k → X.heap.size ≤ k) → wpList Tryd.prog ops Q rest (a.put o.dst v') w') :
    wpList Tryd.prog ops Q (o :: rest) a (X.alloc (.cells #[.int .i64 m.1, .int .i64 m.2] 106)) := by
  obtain ⟨i0, hi, hz0, hz1, hz2⟩ := info_parts info_rp
  have hbX : ∀ w', (X.alloc (.cells #[.int .i64 m.1, .int .i64 m.2] 106)).grownBy w' v.ownBlock → Below base X w' ∧ X.grownBy w' v.ownBlock := fun w' hg =>
    ⟨((Below.refl base X).alloc hbase _).grown hg (by simp; omega) (fun k hk => ((World.ownsRow.alloc hown (.cells #[.int .i64 m.1, .int .i64 m.2] 106)).lt k hk).1),
     ⟨hg.os, hg.tape, hg.output, Nat.le_trans (by simp) hg.size, fun k hk hne => (hg.block k (by simp; omega) hne).trans (Below.heap_alloc _ _ _ hk)⟩⟩
  have hgrow : ∀ (A : Option Addr) (cap : Nat), v = .slice A l.length cap → (A = none → l.length = 0 ∧ cap = 0) → cap < l.length + 1 → wpList Tryd.prog ops Q (o :: rest) a (X.alloc (.cells #[.int .i64 m.1, .int .i64 m.2] 106)) := by
    intro A cap hv hA hfull
    have hA2 : ∀ b, A = some b → ∀ j u, (flatP l)[j]? = some u → (X.alloc (.cells #[.int .i64 m.1, .int .i64 m.2] 106)).cell? (b.add j) = some u := by
      intro b hb j u hj
      rcases hown.2 with ⟨e, hn⟩ | ⟨g, cp, cur, e, hg, r⟩
      · rw [hv, hb] at e; cases e
      · have hc := (World.ownsRow.alloc hown (.cells #[.int .i64 m.1, .int .i64 m.2] 106)).cells (g := g) (by rw [e]; rfl) j u hj
        rw [hv, hb] at e
        injection e with e _ _
        injection e with e
        rw [e]; exact hc
    refine wpList_append_grows (X.alloc (.cells #[.int .i64 m.1, .int .i64 m.2] 106)) hgd s x 62 ho 106 i0 (.agg #[.int .i64 0, .int .i64 0]) 2 16 Tryd.underlying62 hi hz0 hz1 hz2 rfl (by decide) A l.length cap (flatP l) (by rw [hs, hv]) hA (flatP_length l) hA2
      ⟨X.heap.size, 0, none⟩ 1 1 [.int .i64 m.1, .int .i64 m.2] hx rfl (new_pair _ _ _ _) (by intro u hu; simp at hu; rcases hu with rfl | rfl <;> rfl) hfull (by unfold maxLen; omega) (by omega) ?_
    intro v' w1 hown' hg
    have hsz : X.heap.size + 1 = (X.alloc (.cells #[.int .i64 m.1, .int .i64 m.2] 106)).heap.size := by simp
    have hg2 : (X.alloc (.cells #[.int .i64 m.1, .int .i64 m.2] 106)).grownBy w1 v.ownBlock := ⟨hg.os, hg.tape, hg.output, hg.size, fun k hk _ => hg.block k hk (by simp)⟩
    obtain ⟨h1, h2⟩ := hbX w1 hg2
    have ho' : OwnR w1 (X.alloc (.cells #[.int .i64 m.1, .int .i64 m.2] 106)).heap.size v' (l ++ [m]) := by unfold OwnR; rw [List.length_append]; simp only [flatP, List.flatMap_append]; exact hown'
    exact h v' w1 (ho'.mono (by omega)) h1 h2 (.inr fun k hk => by have := (World.ownsRow.lt ho' k hk).1; omega)
  rcases hown.2 with ⟨e, hn⟩ | ⟨g, cap, cur, e, hg, hh, hn, hcap, hrest⟩
  · exact hgrow none 0 (by rw [e, hn]) (fun _ => ⟨hn, rfl⟩) (by omega)
  · by_cases hroom : l.length + 1 ≤ cap
    · subst e
      refine wpList_append_fits _ hgd s x 62 ho base 106 i0 2 Tryd.underlying62 hi hz1 g l.length cap (flatP l) hs (World.ownsRow.alloc hown _) ⟨X.heap.size, 0, none⟩ 1 1 [.int .i64 m.1, .int .i64 m.2] hx rfl (new_pair _ _ _ _)
        (by intro u hu; simp at hu; rcases hu with rfl | rfl <;> rfl) hroom ?_
      intro w1 hown' hg'
      obtain ⟨h1, h2⟩ := hbX w1 hg'
      refine h _ w1 ?_ h1 h2 (.inl rfl)
      unfold OwnR; rw [List.length_append]; simp only [flatP, List.flatMap_append]; exact hown'
    · exact hgrow _ cap e (fun h => by cases h) (by omega)

/-- a reply -/
abbrev RpE := { p : Nat × Nat // p.1 < 64 }
instance : Inhabited RpE := ⟨⟨(0, 0), by decide⟩⟩
def toI (p : Nat × Nat) : Int × Int := ((p.1 : Int), (p.2 : Int))
def encR (x : RpE) : List Value := [.int .i64 (x.1.1 : Int), .int .i64 (x.1.2 : Int)]
def cmpRp (x y : RpE) : Int := (x.1.1 : Int) - (y.1.1 : Int)
theorem ltOf_cmpRp (x y : RpE) : ltOf cmpRp x y = decide (x.1.1 < y.1.1) := by
  unfold ltOf cmpRp
  exact decide_eq_decide.2 (by omega)
theorem swoRp : Go.Sort.SWO (ltOf cmpRp) where
  irrefl x := by rw [ltOf_cmpRp]; simp
  trans x y z h1 h2 := by rw [ltOf_cmpRp, decide_eq_true_iff] at *; omega
  ntrans x y z h1 h2 := by rw [ltOf_cmpRp, decide_eq_false_iff_not] at *; omega
theorem flat_rp (L : List RpE) : Go.Sort.flatK encR 2 L.toArray = Go.Sort.flatK encP 2 (L.map fun x => toI x.1).toArray := by
  unfold Go.Sort.flatK
  simp only [List.size_toArray, List.length_map]
  apply Array.map_congr_left
  intro t ht
  rw [Array.mem_range] at ht
  have hk : t / 2 < L.length := by omega
  rw [getElem!_pos _ (t / 2) (by simpa using hk), getElem!_pos _ (t / 2) (by simpa using hk)]
  simp only [List.getElem_toArray, List.getElem_map]
  rfl
theorem isAggR : ∀ w, (isAgg 106).run Tryd.prog w = .ok true w := Tryd.isAgg106
theorem sizeOfR : ∀ w, (Go.sizeOf 106).run Tryd.prog w = .ok 2 w := Tryd.sizeOf106
set_option maxHeartbeats 1000000 in
theorem answers1_any (x y : RpE) (w : World) : Calls Tryd.prog 119 #[.agg #[.int .i64 (x.1.1 : Int), .int .i64 (x.1.2 : Int)], .agg #[.int .i64 (y.1.1 : Int), .int .i64 (y.1.2 : Int)]] w (RetX (.int .i64 (cmpRp x y)) w) := by
  obtain ⟨⟨a, b⟩, ha⟩ := x
  obtain ⟨⟨c, d⟩, hc⟩ := y
  have e1 : wrap64 ((a : Int) - (c : Int)) = (a : Int) - (c : Int) := by have : a < 64 := ha; have : c < 64 := hc; unfold wrap64; omega
  go_enter Tryd.func119, Tryd.ntmps119
  go_wp2_with fail
  obtain ⟨W0, hW, k0, k1, _, _⟩ := boxed2 w 106 106 (.int .i64 (a : Int)) (.int .i64 (b : Int)) (.int .i64 (c : Int)) (.int .i64 (d : Int))
  have hG : Grew w W0 := by rw [← hW]; exact ((Grew.refl w).alloc _).alloc _
  rw [hW]
  obtain ⟨g0, g1, _, _⟩ := k0.two
  obtain ⟨g2, g3, _, _⟩ := k1.two
  clear hW
  go_wp2_with fail
  go_ret
  exact ⟨rfl, hG⟩
/-- the library's sort of the replies -/
theorem sortR_any (g c : Nat) (O : List (Nat × Nat)) (w : World) (hH : Go.Sort.HoldsK encP 2 w g 0 (O.map toI).toArray) (hO : ∀ p ∈ O, p.1 < 64) (hg : g < w.heap.size) (hl : O.length ≤ 100000) :
    Calls Tryd.prog 115 #[.slice (some ⟨g, 0, none⟩) O.length c, .func (.func 119) #[] #[]] w (fun e w' =>
      e = .returned (.tuple #[]) ∧ ∃ O' : List (Nat × Nat), O'.Perm O ∧ (O'.Pairwise fun p q => p.1 ≤ q.1) ∧ RP w' (some ⟨g, 0, none⟩) (O'.map toI) ∧ w.grownBy w' (some g) ∧ ∀ B, B ≤ g → Below B w w') := by
  obtain ⟨L, hL⟩ : ∃ L : List RpE, L.map (·.1) = O := ⟨O.attach.map fun x => ⟨x.1, hO x.1 x.2⟩, by rw [List.map_map]; exact List.attach_map_subtype_val O⟩
  have hlen : L.length = O.length := by rw [← hL, List.length_map]
  have hLm : (L.map fun x => toI x.1) = O.map toI := by rw [← hL, List.map_map]; rfl
  have hHS : Go.Sort.HoldsK encR 2 w g 0 L.toArray := by unfold Go.Sort.HoldsK at hH ⊢; rw [flat_rp, hLm]; exact hH
  have eg : ∀ args w, (callFunc 119 args).run Tryd.prog w = .ok (.enter 119 args) w := enters_of Tryd.func119 (by kernel_rfl) rfl
  have hcmp : CmpLays Tryd.prog 119 #[] encR 2 cmpRp g 0 L.toArray.size w := fun _ _ _ _ x y => (answers1_any x y _).mono fun _ _ h => ⟨h.1, h.2⟩
  have h := AnyQ.slices_SortFunc sortR 2 isAggR sizeOfR encR (fun _ => rfl) (fun x v hv => by simp [encR] at hv; rcases hv with rfl | rfl <;> rfl) cmpRp swoRp 119 #[] g 0 c L.toArray w eg hcmp hHS hg (by simp; omega)
  rw [List.size_toArray, hlen] at h
  refine h.mono ?_
  rintro e w' ⟨rfl, d', n, os, ⟨hs, _, hp⟩, hso, rfl⟩
  have hs' : d'.size = O.length := by rw [hs, List.size_toArray, hlen]
  have hpp : d'.toList.Perm L := by
    have e1 : d'.extract 0 O.length = d' := by rw [← hs']; simp
    have e2 : L.toArray.extract 0 O.length = L.toArray := by rw [← hlen]; simp
    rw [e1, e2] at hp
    exact hp
  have hH' := holdsK_sortWorldK_c encR 2 w g 0 L.toArray d' n os hHS hg (by rw [List.size_toArray]; omega)
  have hd : Go.Sort.flatK encR 2 d' = Go.Sort.flatK encP 2 (d'.toList.map fun x => toI x.1).toArray := by rw [← flat_rp]
  have hR : RP (sortWorldK encR 2 w g 0 n d' os) (some ⟨g, 0, none⟩) ((d'.toList.map (·.1)).map toI) := by
    unfold Go.Sort.HoldsK at hH'
    rw [hd] at hH'
    rw [List.map_map]
    exact rp_of_holds hH'
  have hsz : w.heap.size ≤ (sortWorldK encR 2 w g 0 n d' os).heap.size := size_sortWorldK_c encR 2 w g 0 n d' os
  have hblk : ∀ k, k < w.heap.size → k ≠ g → (sortWorldK encR 2 w g 0 n d' os).heap[k]? = w.heap[k]? := fun k hk hne => by
    unfold sortWorldK
    rw [Go.Sort.heap_grow_old _ os (by rw [Go.Sort.size_putRowK]; exact hk)]
    unfold Go.Sort.putRowK Go.Sort.putRow Go.Sort.mapBlock
    simp only [Array.getElem?_modify, if_neg (fun e : g = k => hne e.symm)]
    rfl
  refine ⟨rfl, d'.toList.map (·.1), by rw [← hL]; exact hpp.map _, ?_, hR, ⟨rfl, rfl, rfl, hsz, fun k hk hne => hblk k hk (fun e => hne (congrArg some e))⟩, fun B hB => ⟨rfl, rfl, rfl, hsz, fun k hk => hblk k (by omega) (by omega)⟩⟩
  rw [List.pairwise_map, List.pairwise_iff_getElem]
  intro i j hi hj hij
  have h1 := hso i j (Nat.zero_le _) hij (by simp at hj; omega)
  rw [ltOf_cmpRp, decide_eq_false_iff_not] at h1
  rw [getElem!_pos _ i (by simpa using hi), getElem!_pos _ j (by simpa using hj)] at h1
  simp only [Array.getElem_toList]
  omega
theorem sortR_none (A : Option Addr) (c : Nat) (w : World) :
    Calls Tryd.prog 115 #[.slice A 0 c, .func (.func 119) #[] #[]] w (Ret (.tuple #[]) w) :=
  (AnyF.slices_SortFunc_none { sortR with } A c (.func (.func 119) #[] #[]) w).mono fun _ _ h => ⟨h.1, h.2.symm⟩
theorem holds_of_ownR {w : World} {b g c : Nat} {l : List (Int × Int)} (h : OwnR w b (.slice (some ⟨g, 0, none⟩) l.length c) l) : Go.Sort.HoldsK encP 2 w g 0 l.toArray := by
  have h' := h
  obtain ⟨h1, h2⟩ := h
  rcases h2 with ⟨e, _⟩ | ⟨g', cap, cur, e, hg, hh, hn, hcap, hs, ht⟩
  · cases e
  · injection e with e1 e2 e3
    injection e1 with e1
    injection e1 with e1 _ _
    subst e1
    intro j hj
    have hj' : j < l.length * 2 := by simpa using hj
    refine ⟨?_, by simp [World.frozen?, hh]⟩
    have hk : j / 2 < l.length := by omega
    obtain ⟨p1, p2⟩ := flatP_at l (j / 2) hk
    obtain ⟨f1, f2⟩ := flatK_encP l.toArray (k := j / 2) (by simpa using hk)
    have hg2 : l.toArray[j / 2]! = l.getD (j / 2) (0, 0) := by simp [List.getD, hk]
    rw [hg2] at f1 f2
    rcases Nat.mod_two_eq_zero_or_one j with hm | hm
    · have e : j / 2 * 2 = j := by omega
      rw [e] at p1 f1
      have hc := h'.cells (g := g) rfl _ _ p1
      rw [show (⟨g, 0, none⟩ : Addr).add j = ⟨g, 0 + j, none⟩ by unfold Addr.add; split <;> simp_all] at hc
      rw [f1]; exact hc
    · have e : j / 2 * 2 + 1 = j := by omega
      rw [e] at p2 f2
      have hc := h'.cells (g := g) rfl _ _ p2
      rw [show (⟨g, 0, none⟩ : Addr).add j = ⟨g, 0 + j, none⟩ by unfold Addr.add; split <;> simp_all] at hc
      rw [f2]; exact hc
end Go.Proofs.YtncimnfhfomddaaDoor

/- Package game: the proponent's replies. -/
namespace Go.Proofs.YtncimnfhfomddaaDoor
open Go.ChangeShapes Go.WideShapes Go.ChangeAt Go.RowKit

/-- the memory while the replies are gathered -/
structure AnS (p n B1 : Nat) (B O : Option Addr) (W0 : World) (vR : Value) (R : List Nat) (vO : Value) (OO : List (Nat × Nat)) (w : World) : Prop where
  r : OwnI w B1 vR (R.map Int.ofNat)
  o : OwnR w B1 vO (OO.map toI)
  far : Far vR vO
  hd : Blk w p 97 #[.int .u64 ((allN n : Nat) : Int), .slice B n n, .slice O n n]
  bel : Below B1 W0 w
  pB : p < B1
  hB : B1 ≤ W0.heap.size
section
variable {p n B1 : Nat} {B O : Option Addr} {W0 w w' : World} {vR vO v' : Value} {R : List Nat} {OO : List (Nat × Nat)}
theorem AnS.size (h : AnS p n B1 B O W0 vR R vO OO w) : B1 ≤ w.heap.size := Nat.le_trans h.hB h.bel.size
theorem AnS.below (h : AnS p n B1 B O W0 vR R vO OO w) (hb : Below w.heap.size w w') : AnS p n B1 B O W0 vR R vO OO w' :=
  { r := OwnI.below h.r hb, o := OwnR.below h.o hb, far := h.far, hd := h.hd.below hb h.hd.lt, bel := h.bel.trans (hb.mono h.size), pB := h.pB, hB := h.hB }
theorem own_lo {e : TypeId} {size k : Nat} {v : Value} {xs : List Value} (h : w.ownsRow B1 e size v k xs) {g : Nat} (hg : g < B1) : some g ≠ v.ownBlock := fun e => by have := (World.ownsRow.lt h g e.symm).1; omega
theorem AnS.moreO (h : AnS p n B1 B O W0 vR R vO OO w) {OO' : List (Nat × Nat)} (ho : OwnR w' B1 v' (OO'.map toI)) (hb : Below B1 w w') (hg : w.grownBy w' vO.ownBlock) (hl : v'.ownBlock = vO.ownBlock ∨ ∀ k, v'.ownBlock = some k → w.heap.size ≤ k) : AnS p n B1 B O W0 vR R v' OO' w' :=
  { r := h.r.keep hg h.far.symm, o := ho, far := (h.far.symm.appended h.r hl).symm, hd := h.hd.grown hg (own_lo h.o h.pB), bel := h.bel.trans hb, pB := h.pB, hB := h.hB }
theorem AnS.moreR (h : AnS p n B1 B O W0 vR R vO OO w) {R' : List Nat} (hr : OwnI w' B1 v' (R'.map Int.ofNat)) (hb : Below B1 w w') (hg : w.grownBy w' vR.ownBlock) (hl : v'.ownBlock = vR.ownBlock ∨ ∀ k, v'.ownBlock = some k → w.heap.size ≤ k) : AnS p n B1 B O W0 v' R' vO OO w' :=
  { r := hr
    o := World.ownsRow.kept h.o hg (by
      cases hu : vO.ownBlock with
      | none => exact .inl rfl
      | some k => exact .inr fun e => h.far k e.symm hu)
    far := fun k hk e => by
      rcases hl with hv | hv
      · exact h.far k (by rw [← hv]; exact hk) e
      · have := hv k hk
        have := (World.ownsRow.lt h.o k e).2
        omega
    hd := h.hd.grown hg (own_lo h.r h.pB), bel := h.bel.trans hb, pB := h.pB, hB := h.hB }
end
theorem own_one2 (w : World) (x : Int) (b : Nat) (hb : b ≤ w.heap.size) : OwnI (w.alloc (.cells #[.int .i64 x] 3)) b (.slice (some ⟨w.heap.size, 0, none⟩) 1 1) [x] := World.ownsRow_lit (size := 1) w #[.int .i64 x] 1 hb (by decide) rfl
theorem AnI.len {n root S : Nat} {at_ : Nat → Nat → Bool} {pick : Nat → Nat} {P : Nat → Prop} {R : List Nat} {O : List (Nat × Nat)} (h : AnI n at_ pick P root R O S) : R.length ≤ n := by
  have := nodup_len n (R.map Int.ofNat) (List.Pairwise.map _ (fun _ _ hne e => hne (Int.ofNat.inj e)) h.nd) fun x hx => by
    obtain ⟨a, ha, rfl⟩ := List.mem_map.1 hx
    exact ⟨a, (h.ok a ha).1, rfl⟩
  rwa [List.length_map] at this
theorem AnI.olen {n root S : Nat} {at_ : Nat → Nat → Bool} {pick : Nat → Nat} {P : Nat → Prop} {R : List Nat} {O : List (Nat × Nat)} (h : AnI n at_ pick P root R O S) : O.length ≤ n := by
  have := nodup_len n (O.map fun p => Int.ofNat p.1) (List.Pairwise.map _ (fun _ _ hne e => hne (Int.ofNat.inj e)) h.no) fun x hx => by
    obtain ⟨a, ha, rfl⟩ := List.mem_map.1 hx
    exact ⟨a.1, (h.o a ha).2.2.1, rfl⟩
  rwa [List.length_map] at this
/-- the call returns the replies, in order -/
def RetAn (n : Nat) (at_ : Nat → Nat → Bool) (pick : Nat → Nat) (P : Nat → Prop) (root : Nat) (w : World) : Ending → World → Prop := fun e w' => ∃ (R : List Nat) (OO : List (Nat × Nat)) (A : Option Addr) (c : Nat), e = .returned (.slice A OO.length c) ∧ AnOk n at_ pick P root R OO ∧ OO.length ≤ n ∧ RP w' A (OO.map toI) ∧ (∀ b o, A = some ⟨b, o, none⟩ → w.heap.size ≤ b ∧ b < w'.heap.size) ∧ Below w.heap.size w w'
theorem far_fresh {X : World} {v u : Value} {b : Nat} {e : TypeId} {size k : Nat} {xs : List Value} (hv : X.ownsRow b e size v k xs) (hu : ∀ k, u.ownBlock = some k → X.heap.size ≤ k) : Far v u := fun k hk e => by
  have := hu k e
  have := (World.ownsRow.lt hv k hk).2
  omega
theorem inB_ofNat (R : List Nat) (y : Nat) : inB (R.map Int.ofNat) (y : Int) = decide (y ∈ R) := by
  rw [Bool.eq_iff_iff, inB_iff, decide_eq_true_iff, List.mem_map]
  constructor
  · rintro ⟨a, ha, e⟩
    have : a = y := Int.ofNat.inj e
    rw [← this]; exact ha
  · intro h; exact ⟨y, h, rfl⟩

set_option maxRecDepth 100000 in
set_option maxHeartbeats 8000000 in
theorem gAnswers_any {n : Nat} {l : List (Int × Int)} (hv : InR n l) (B O : Option Addr) (root : Nat) (hroot : root < n) (fn : FuncId) (u1 u2 : Value) (pick : Nat → Nat) (P : Nat → Prop) (hP : P root) (hk : PickOk n (attQ l) pick P)
    (hcf : ∀ x w, (callFunc fn #[x, u1, u2]).run Tryd.prog w = .ok (.enter fn #[x, u1, u2]) w) (w : World) (hT : Tab w) (hr : NetR w n l B O)
    (hpick : ∀ x a, a < n → P a → attQ l x a = true → ∀ W, Below w.heap.size w W → Calls Tryd.prog fn #[.int .i64 (x : Int), u1, u2] W (RetB (.int .i64 (pick x : Int)) W)) :
    Calls Tryd.prog 78 #[.agg #[.int .u64 ((allN n : Nat) : Int), .slice B n n, .slice O n n], .int .i64 (root : Int), .func (.func fn) #[] #[u1, u2]] w (RetAn n (attQ l) pick P root w) := by
  have hn := hv.1
  have Hk := Lib.hid hk; have Hpick := Lib.hid hpick; have HP := Lib.hid hP
  clear hk hpick hP
  go_enter Tryd.func78, Tryd.ntmps78
  go_upto_region 1 with fail
  obtain ⟨W0, hW, kn, hb0, hs0⟩ := boxedN w 97 (.int .u64 ((allN n : Nat) : Int)) (.slice B n n) (.slice O n n)
  rw [hW]
  have hr0 := hr.below hb0
  have hT0 := hT.below hb0
  clear hW hr hT
  go_wp2_with fail
  obtain ⟨W1, hW1, hst, hb1⟩ : ∃ W1, W0.alloc (.cells #[.int .i64 (root : Int)] 3) = W1 ∧ AnS w.heap.size n (w.heap.size + 1) B O W0 (.slice (some ⟨W0.heap.size, 0, none⟩) 1 1) [root] (.slice none 0 0) [] W1 ∧ Below W0.heap.size W0 W1 :=
    ⟨_, rfl, { r := own_one2 W0 root _ (by omega), o := OwnR.nil _ _, far := (Far.nil _).symm, hd := kn.alloc _, bel := (newB W0 _).mono (by omega), pB := by omega, hB := by omega }, newB _ _⟩
  rw [hW1]
  rw [hs0] at hst
  have hB0 : Below w.heap.size w W0 := hb0
  clear hW1 hb1 hb0
  go_wp2_with fail
  go_loopw [7, 8, 9, 10] (fun t7 t8 t9 t10 wr => ∃ (R : List Nat) (OO : List (Nat × Nat)) (S i : Nat), i ≤ R.length ∧ t8 = .int .u64 (S : Int) ∧ S < 18446744073709551616 ∧ t10 = .int .i64 (i : Int) ∧ AnS w.heap.size n (w.heap.size + 1) B O W0 t7 R t9 OO wr ∧ AnI n (attQ l) pick P root R OO S ∧ ∀ j, j < i → ∀ x, attQ l x (R.getD j 0) = true → S.testBit x = true) (fun _ _ _ t10 _ => n - (intOf t10).toNat)
  case atStart => exact ⟨[root], [], 0, 0, Nat.zero_le _, rfl, by omega, rfl, hst, AnI.start hroot HP.out, fun j hj => absurd hj (Nat.not_lt_zero j)⟩
  case round =>
    clear hst
    obtain ⟨R, OO, S, i, hi, rfl, hS, rfl, hst, han, hdone⟩ := hrel
    have hRl := han.len
    obtain ⟨AR, cR, rfl, hri, -⟩ := OwnI.form hst.r
    rw [List.length_map] at hst ⊢
    have Han := Lib.hid han; have Hdone := Lib.hid hdone; have Hst := Lib.hid hst; have HS := Lib.hid hS
    clear han hdone hst hS
    by_cases hlt : i < R.length
    case neg =>
      have hOl := Han.out.olen
      have hdn : ∀ j, j < R.length → ∀ x, attQ l x (R.getD j 0) = true → S.testBit x = true := fun j hj => Hdone.out j (by omega)
      have Hdn := Lib.hid hdn
      have hbw : Below w.heap.size w wr := hB0.trans (Hst.out.bel.mono (by omega))
      have Hbw := Lib.hid hbw
      have hO64 : ∀ p ∈ OO, p.1 < 64 := fun p hp => by have := (Han.out.o p hp).2.2.1; omega
      have HO64 := Lib.hid hO64
      clear hdn hbw hri Hdone hO64
      rcases OwnR.form Hst.out.o with ⟨e9, e0⟩ | ⟨g, c9, e9, hg, hgl⟩
      · subst e9
        obtain rfl : OO = [] := by simpa using e0
        have hend := Lib.hid (AnI.done Han.out Hdn.out (List.Perm.refl []) .nil)
        have hso := Lib.hid (sortR_none none 0 wr)
        clear Hst e0
        go_wp2_with fail
        refine hso.out.mono ?_
        rintro e w5 ⟨rfl, rfl⟩
        go_wp2_with fail
        go_ret
        exact ⟨R, [], none, 0, rfl, hend.out, Nat.zero_le _, RP.nil _ _, (fun b o e => by cases e), Hbw.out⟩
      · subst e9
        have hho := holds_of_ownR (l := OO.map toI) Hst.out.o
        have hso := sortR_any g c9 OO wr hho HO64.out hgl (by omega)
        have Hso := Lib.hid hso
        rw [List.length_map]
        clear hho hso
        go_wp2_with fail
        refine Hso.out.mono ?_
        rintro e w5 ⟨rfl, OO', hp, hsr, hrp, hgr, hbel⟩
        have hend := Lib.hid (AnI.done Han.out Hdn.out hp hsr)
        have hlen' := hp.length_eq
        have Hrp := Lib.hid hrp; have Hbel := Lib.hid hbel; have Hlen := Lib.hid hlen'; have Hgr := Lib.hid hgr
        clear hp hsr hrp hbel hlen' hgr
        go_wp2_with fail
        go_ret
        refine ⟨R, OO', some ⟨g, 0, none⟩, c9, by rw [Hlen.out]; rfl, hend.out, by rw [Hlen.out]; exact hOl, Hrp.out, fun b o e => ?_, Hbw.out.trans (Hbel.out _ (by omega))⟩
        injection e with e; injection e with e1 e2 e3; subst e1
        exact ⟨by omega, Nat.lt_of_lt_of_le hgl Hgr.out.size⟩
    case pos =>
    obtain ⟨a, ha⟩ : ∃ a, R[i] = a := ⟨_, rfl⟩
    have haR : a ∈ R := by rw [← ha]; exact List.getElem_mem _
    have han := (Han.out.ok a haR).1
    obtain ⟨b, o, rfl, hc⟩ := hri.at_ (k := i) (by rw [List.length_map]; exact hlt)
    rw [List.getElem_map, ha, Int.ofNat_eq_natCast] at hc
    have c1 : wr.cell? ⟨w.heap.size, 1, none⟩ = _ := Hst.out.hd.cell 1
    have hbW : Below W0.heap.size W0 wr := by rw [hs0]; exact Hst.out.bel
    have hrr := hr0.below hbW
    have hTr := hT0.below hbW
    obtain ⟨b2, o2, hB2, hc2⟩ := hrr.b a (by rw [byL_length]; exact han)
    have hlist := netList_any ((byL n l).getD a 0) (by rw [byL_at han]; exact u64_of hn (mk_pow (inR_flip hv) a))
    rw [by_bit hv han] at hlist
    have hys : ∀ y ∈ (List.range n).filter (fun y => attQ l y a), y < n ∧ attQ l y a = true := fun y hy => by
      rw [List.mem_filter, List.mem_range] at hy; exact hy
    have hys2 : ∀ y, attQ l y a = true → y ∈ (List.range n).filter (fun y => attQ l y a) := fun y hy => List.mem_filter.2 ⟨List.mem_range.2 (att_lt hv (attQ_iff.1 hy)).1, hy⟩
    have hyl : ((List.range n).filter (fun y => attQ l y a)).length ≤ 1000 := by have := List.length_filter_le (fun y => attQ l y a) (List.range n); simp at this; omega
    generalize (List.range n).filter (fun y => attQ l y a) = ys at *
    have hi0 : (0 : Int) ≤ (i : Int) := by omega
    have hi1 : (i : Int) < (R.length : Int) := by omega
    have ha0 : (0 : Int) ≤ (a : Int) := by omega
    have ha1 : (a : Int) < (n : Int) := by omega
    have Hlist := Lib.hid hlist; have Hys := Lib.hid hys; have Hys2 := Lib.hid hys2; have Hri := Lib.hid ha
    rw [hB2] at c1
    clear hlist hys hys2 ha hrr hri
    go_wp2_with fail
    refine wp_region_textB [8] (fun w' => Below wr.heap.size wr w') (fun _ => True) (by kernel_rfl) (by kernel_rfl) (by kernel_rfl) (Below.refl _ _).drew trivial ?_
    repeat (first
      | (refine TxtBL.skip (by rfl) ?_; simp only [Act.put, List.setIfInBounds_toArray, List.set_cons_zero, List.set_cons_succ])
      | (refine TxtBL.take (by rfl) (by rfl) ?_; apply Exists.intro; refine ⟨fun w1 hS1 => ?_, ?_⟩; (focus ((have g1 := (hS1.cell (lt_of_cell c1)).trans c1); (have g2 := (hS1.cell (lt_of_cell hc)).trans hc); (have g3 := (hS1.cell (lt_of_cell hc2)).trans hc2); go_simp; with_reducible rfl)); simp only [Act.put, List.setIfInBounds_toArray, List.set_cons_zero, List.set_cons_succ])
      | (refine TxtBL.takeE (by rfl) (by rfl) ?_; apply Exists.intro; refine ⟨fun w1 hS1 => ?_, ?_⟩; (focus ((have g1 := (hS1.cell (lt_of_cell c1)).trans c1); (have g2 := (hS1.cell (lt_of_cell hc)).trans hc); (have g3 := (hS1.cell (lt_of_cell hc2)).trans hc2); go_simp; with_reducible rfl)); simp only [Act.put, List.setIfInBounds_toArray, List.set_cons_zero, List.set_cons_succ]))
    refine TxtBL.call (f := 64) (args := #[.int .u64 (((byL n l).getD a 0 : Nat) : Int)]) (fun u => ∃ A c, u = .slice A ys.length c) (fun u w' => OwnI w' wr.heap.size u (ys.map Int.ofNat)) (by rfl) (by rfl) ⟨_, none, 0, rfl⟩ (fun w1 hS1 hJ1 => by go_simp) (fun w2 hS2 hJ1 => ?_) ?_
    · refine (Hlist.out w2 (hTr.below hS2)).mono ?_
      rintro e w' ⟨A', c', rfl, ho, -, -, hb⟩
      rw [List.length_map] at ho ⊢
      exact ⟨_, rfl, hS2.trans (hb.mono hS2.size), ⟨A', c', rfl⟩, ho.mono hS2.size⟩
    rintro _ ⟨A7, c7, rfl⟩
    simp only [Act.put, List.setIfInBounds_toArray, List.set_cons_zero, List.set_cons_succ]
    repeat (first
      | (refine TxtBL.skip (by rfl) ?_; simp only [Act.put, List.setIfInBounds_toArray, List.set_cons_zero, List.set_cons_succ])
      | (refine TxtBL.take (by rfl) (by rfl) ?_; apply Exists.intro; refine ⟨fun w1 hS1 => ?_, ?_⟩; (focus (skip; go_simp; with_reducible rfl)); simp only [Act.put, List.setIfInBounds_toArray, List.set_cons_zero, List.set_cons_succ])
      | (refine TxtBL.takeE (by rfl) (by rfl) ?_; apply Exists.intro; refine ⟨fun w1 hS1 => ?_, ?_⟩; (focus (skip; go_simp; with_reducible rfl)); simp only [Act.put, List.setIfInBounds_toArray, List.set_cons_zero, List.set_cons_succ]))
    refine TxtBL.nil (fun W3 hS3 hJ3 => ?_)
    have hst3 := Hst.out.below hS3
    have hwr : w.heap.size + 1 ≤ wr.heap.size := Hst.out.size
    have hlo : ∀ k, (Value.slice A7 ys.length c7).ownBlock = some k → wr.heap.size ≤ k := fun k hk => (World.ownsRow.lt hJ3 k hk).1
    have hf7 : Far (.slice (some ⟨b, o, none⟩) R.length cR) (.slice A7 ys.length c7) := far_fresh Hst.out.r hlo
    have hf9 := far_fresh Hst.out.o hlo
    have hoX : OwnI W3 (w.heap.size + 1) (.slice A7 ys.length c7) (ys.map Int.ofNat) := OwnI.mono hJ3 hwr
    clear hJ3 hc hc2 c1 Hlist hbW hTr hB2 Hst hS3 hlo hwr
    go_wp2_with fail
    go_loopw [7, 8, 9, 32] (fun t7 t8 t9 t32 wx => ∃ (R' : List Nat) (OO' : List (Nat × Nat)) (S' q : Nat), q ≤ ys.length ∧ t8 = .int .u64 (S' : Int) ∧ S' < 18446744073709551616 ∧ t32 = .int .i64 (q : Int) ∧ AnS w.heap.size n (w.heap.size + 1) B O W0 t7 R' t9 OO' wx ∧ AnI n (attQ l) pick P root R' OO' S' ∧ i < R'.length ∧ (∀ j, j ≤ i → R'.getD j 0 = R.getD j 0) ∧ (∀ y ∈ ys.take q, S'.testBit y = true) ∧ (∀ x, S.testBit x = true → S'.testBit x = true) ∧
      OwnI wx (w.heap.size + 1) (.slice A7 ys.length c7) (ys.map Int.ofNat) ∧ Far t7 (.slice A7 ys.length c7) ∧ Far t9 (.slice A7 ys.length c7)) (fun _ _ _ t32 _ => ys.length - (intOf t32).toNat)
    case atStart => exact ⟨R, OO, S, 0, Nat.zero_le _, rfl, HS.out, rfl, hst3, Han.out, hlt, fun _ _ => rfl, fun y hy => by simp at hy, fun _ h => h, hoX, hf7, hf9⟩
    case round =>
      clear hst3 hoX hf7 hf9
      obtain ⟨R', OO', S', q, hq, rfl, hS', rfl, hst, han', hiR, hpre, hqs, hSS, hoX, hf7, hf9⟩ := hrel
      by_cases hqy : q < ys.length
      case neg =>
        have Hst := Lib.hid hst; have Han' := Lib.hid han'; have Hpre := Lib.hid hpre; have Hqs := Lib.hid hqs; have HSS := Lib.hid hSS; have HS' := Lib.hid hS'
        clear hst han' hpre hqs hSS hS' hoX hf7 hf9
        go_wp2_with fail
        go_roundw
        case rel =>
          refine ⟨R', OO', S', i + 1, by omega, rfl, HS'.out, by go_num, Hst.out, Han'.out, fun j hj x hx => ?_⟩
          rw [Hpre.out j (by omega)] at hx
          rcases Nat.lt_or_ge j i with h | h
          · exact HSS.out x (Hdone.out j h x hx)
          · have hji : j = i := by omega
            subst hji
            rw [List.getD_eq_getElem?_getD, List.getElem?_eq_getElem hlt] at hx
            have hx' : attQ l x a = true := by rw [← Hri.out]; exact hx
            exact Hqs.out x (by rw [List.take_of_length_le (by omega)]; exact Hys2.out x hx')
        case measure => simp [intOf]; omega
      case pos =>
      obtain ⟨AR2, cR2, rfl, -, -⟩ := OwnI.form hst.r
      rw [List.length_map] at hst hf7 ⊢
      obtain ⟨y, hy⟩ : ∃ y, ys[q] = y := ⟨_, rfl⟩
      have hyy := Hys.out y (by rw [← hy]; exact List.getElem_mem _)
      obtain ⟨hyn, hya⟩ := hyy
      have haR' : a ∈ R' := by
        have h1 := hpre i (Nat.le_refl _)
        rw [List.getD_eq_getElem?_getD, List.getD_eq_getElem?_getD, List.getElem?_eq_getElem hlt, List.getElem?_eq_getElem hiR, Hri.out] at h1
        have h2 : R'[i] = a := h1
        rw [← h2]; exact List.getElem_mem _
      obtain ⟨AY, cY, hAY, hriY, -⟩ := OwnI.form hoX
      have hcy := hriY.at_ (k := q) (by rw [List.length_map]; exact hqy)
      injection hAY with hAY1 hAY2 hAY3
      subst hAY1
      obtain ⟨b7, o7, rfl, hc7⟩ := hcy
      rw [List.getElem_map, hy, Int.ofNat_eq_natCast] at hc7
      have hP' := (han'.ok a haR').2
      have hpk := Hk.out y a han hP' hya
      have hy64 : y < 64 := by omega
      have hRl' := han'.len
      have hOl' := han'.olen
      have htk : ∀ S'' : Nat, (∀ x, S'.testBit x = true → S''.testBit x = true) → S''.testBit y = true → ∀ z ∈ ys.take (q + 1), S''.testBit z = true := fun S'' h1 h2 z hz => by
        rw [List.take_succ_eq_append_getElem hqy, hy, List.mem_append, List.mem_singleton] at hz
        rcases hz with hz | rfl
        · exact h1 z (hqs z hz)
        · exact h2
      have Htk := Lib.hid htk; have Hpre := Lib.hid hpre; have HSS := Lib.hid hSS; have Hpk := Lib.hid hpk; have HP' := Lib.hid hP'; have Han' := Lib.hid han'
      have hhas := netHas_any S' y hS' hy64 wr
      have hwith := netWith_any S' y hS' hy64 wr
      have HS' := Lib.hid hS'
      clear htk hpre hSS hqs hpk hP' han' hriY hy hS' hAY2 hAY3
      go_wp2_with fail
      refine hhas.mono ?_
      rintro e wy ⟨rfl, rfl⟩
      cases hSy : S'.testBit y
      case true =>
        have Hst := Lib.hid hst; have HoX := Lib.hid hoX; have Hf7 := Lib.hid hf7; have Hf9 := Lib.hid hf9; have HSy := Lib.hid hSy
        clear hst hoX hf7 hf9 hwith hSy hc7
        go_wp2_with fail
        go_roundw
        case rel => exact ⟨R', OO', S', q + 1, by omega, rfl, HS'.out, by go_num, Hst.out, Han'.out, hiR, Hpre.out, Htk.out S' (fun _ h => h) HSy.out, HSS.out, HoX.out, Hf7.out, Hf9.out⟩
        case measure => simp [intOf]; omega
      case false =>
      go_wp2_with fail
      refine hwith.mono ?_
      rintro e wz ⟨rfl, rfl⟩
      have hmore := Han'.out.more Hk.out haR' hya hSy
      have hS2 : S' ||| 1 <<< y < 18446744073709551616 := or_u64 HS'.out hy64
      have hb1 : ∀ x, S'.testBit x = true → (S' ||| 1 <<< y).testBit x = true := fun x hx => by rw [bit_with, hx, Bool.true_or]
      have hb2 : (S' ||| 1 <<< y).testBit y = true := by rw [bit_with]; simp
      have Hmore := Lib.hid hmore; have HS2 := Lib.hid hS2; have Hb1 := Lib.hid hb1; have Hb2 := Lib.hid hb2
      have hpi := Hpick.out y a han HP'.out hya wr (hB0.trans (hst.bel.mono (by omega)))
      have Hpi := Lib.hid hpi; have Hst := Lib.hid hst; have HoX := Lib.hid hoX
      generalize S' ||| 1 <<< y = S2 at *
      clear hmore hS2 hb1 hb2 hpi hst hoX hSy hhas hwith hc7
      go_wp2_with fail
      refine Hpi.out.mono ?_
      rintro e w4 ⟨rfl, hb4⟩
      have hst4 := Hst.out.below hb4
      have hoX4 := OwnI.below HoX.out hb4
      have hlo4 : (OO'.map toI).length ≤ 1000000 := by rw [List.length_map]; omega
      have Hst4 := Lib.hid hst4; have HoX4 := Lib.hid hoX4; have Hf7 := Lib.hid hf7; have Hf9 := Lib.hid hf9
      clear hst4 hoX4 Hst HoX Hpi hb4 hf7 hf9
      go_wp2_with (at_builtin; refine wpList_appR2 (by rfl) _ _ (by rfl) w4 (w.heap.size + 1) _ _ (toI (y, pick y)) Hst4.out.o (by rfl) (by rfl) hlo4 Hst4.out.size ?_; intro v5 w5 ho5 hb5 hg5 hl5; (have hst5 := Lib.hid (Hst4.out.moreO (OO' := OO' ++ [(y, pick y)]) (by rw [List.map_append]; exact ho5) hb5 hg5 hl5)); (have hoX5 := Lib.hid (HoX4.out.keep hg5 Hf9.out)); (have hf95 := Lib.hid (Hf9.out.appended HoX4.out hl5)); clear ho5 hb5 hg5 hl5)
      have hri5 := Hmore.out
      have hcon := containsI_any AR2 (R'.map Int.ofNat) cR2 (pick y : Int) w5 (OwnI.ri (by rw [List.length_map]; exact hst5.out.r)) (by rw [List.length_map]; omega)
      rw [List.length_map, inB_ofNat] at hcon
      clear hri5
      refine hcon.mono ?_
      rintro e w6 ⟨rfl, rfl⟩
      have hm := Hmore.out
      by_cases hin : pick y ∈ R'
      · rw [if_pos hin] at hm
        have Hm := Lib.hid hm
        rw [decide_eq_true hin]
        clear hm hcon hin Hmore
        go_wp2_with fail
        go_roundw
        case rel => exact ⟨R', OO' ++ [(y, pick y)], S2, q + 1, by omega, rfl, HS2.out, by go_num, hst5.out, Hm.out, hiR, Hpre.out, Htk.out S2 Hb1.out Hb2.out, fun x hx => Hb1.out x (HSS.out x hx), hoX5.out, Hf7.out, hf95.out⟩
        case measure => simp [intOf]; omega
      · rw [if_neg hin] at hm
        have Hm := Lib.hid hm
        rw [decide_eq_false hin]
        have hlr : (R'.map Int.ofNat).length ≤ 1000000 := by rw [List.length_map]; omega
        clear hm hcon hin Hmore
        go_wp2_with (at_builtin; refine wpList_appI2 (by rfl) _ _ (by rfl) w5 (w.heap.size + 1) _ (R'.map Int.ofNat) (pick y : Int) hst5.out.r (by rfl) (by rfl) rfl hlr hst5.out.size ?_; intro v6 w6 ho6 hb6 hg6 hl6; (have hst6 := Lib.hid (hst5.out.moreR (R' := R' ++ [pick y]) (by rw [List.map_append]; exact ho6) hb6 hg6 hl6)); (have hoX6 := Lib.hid (hoX5.out.keep hg6 Hf7.out)); (have hf76 := Lib.hid (Hf7.out.appended hoX5.out hl6)); clear ho6 hb6 hg6 hl6)
        go_roundw
        case rel =>
          refine ⟨R' ++ [pick y], OO' ++ [(y, pick y)], S2, q + 1, by omega, rfl, HS2.out, by go_num, hst6.out, Hm.out, by rw [List.length_append]; omega, fun j hj => ?_, Htk.out S2 Hb1.out Hb2.out, fun x hx => Hb1.out x (HSS.out x hx), hoX6.out, hf76.out, hf95.out⟩
          rw [← Hpre.out j hj, List.getD_eq_getElem?_getD, List.getD_eq_getElem?_getD, List.getElem?_append_left (by omega)]
        case measure => simp [intOf]; omega
end Go.Proofs.YtncimnfhfomddaaDoor

/- Package game: Solve, of the credulous game. Printed by gen_net7.py. -/
namespace Go.Proofs.YtncimnfhfomddaaDoor
open Go.ChangeShapes Go.WideShapes Go.ChangeAt Go.RowKit

set_option maxHeartbeats 1000000 in
theorem gExists_any (k : Int) (w : World) : Calls Tryd.prog 75 #[.int .i64 k] w (Ret (.bool (k == 1 || k == 2)) w) := by
  by_cases h1 : k = 1
  · subst h1
    go_enter Tryd.func75, Tryd.ntmps75
    go_wp2_with fail
    go_ret
    exact ⟨rfl, rfl⟩
  · have h1b : (k == 1) = false := beq_eq_false_iff_ne.2 h1
    rw [h1b, Bool.false_or]
    obtain ⟨b, hb⟩ : ∃ b, (k == 2) = b := ⟨_, rfl⟩
    rw [hb]
    clear h1
    go_enter Tryd.func75, Tryd.ntmps75
    go_wp2_with fail
    go_ret
    exact ⟨rfl, rfl⟩
set_option maxRecDepth 100000 in
set_option maxHeartbeats 1000000 in
/-- the proponent's answer to an attacker -/
theorem gSolve1_any {n : Nat} {l : List (Int × Int)} (hv : InR n l) (gB gO q9 q11 s x : Nat) (hs : s < 2 ^ n) (ha : AdmS n (attQ l) s) (hx : x < n) (hf : foeS n (attQ l) s x = true) (w : World) (hT : Tab w) (hr : NetR w n l (some ⟨gB, 0, none⟩) (some ⟨gO, 0, none⟩))
    (h9 : Blk w q9 97 #[.int .u64 ((allN n : Nat) : Int), .slice (some ⟨gB, 0, none⟩) n n, .slice (some ⟨gO, 0, none⟩) n n]) (h11 : Blk w q11 93 #[.int .u64 (s : Int)]) :
    Calls Tryd.prog 79 #[.int .i64 (x : Int), .pointer (some ⟨q9, 0, none⟩), .pointer (some ⟨q11, 0, none⟩)] w (RetB (.int .i64 (pickS n (attQ l) s x : Int)) w) := by
  have hby : (byL n l).getD x 0 < 18446744073709551616 := by rw [byL_at hx]; exact u64_of hv.1 (mk_pow (inR_flip hv) x)
  have hsu := u64_of hv.1 hs
  have hand := u64_and_nat _ _ hby hsu
  have hpk := pick_ok ha hx hf
  have hbit := pick_bit hv (s := s) hx
  have hlt : (byL n l).getD x 0 &&& s < 18446744073709551616 := Nat.lt_of_le_of_lt Nat.and_le_left hby
  have hfi := fun W hTW => gFirst_any ((byL n l).getD x 0 &&& s) W hTW hlt (by
    rw [hbit, List.length_map]
    refine List.length_pos_of_mem (a := pickS n (attQ l) s x) (List.mem_filter.2 ⟨List.mem_range.2 hpk.1, ?_⟩)
    rw [hpk.2.1, hpk.2.2]; rfl)
  rw [hbit, firstOf] at hfi
  have hfi2 : ∀ W, Tab W → Calls Tryd.prog 80 #[.int .u64 (((byL n l).getD x 0 &&& s : Nat) : Int)] W (RetB (.int .i64 (pickS n (attQ l) s x : Int)) W) := hfi
  obtain ⟨b2, o2, hB2, hc2⟩ := hr.b x (by rw [byL_length]; exact hx)
  injection hB2 with hB2; injection hB2 with e1 e2 _; subst e1; subst e2
  rw [Nat.zero_add] at hc2
  have c1 : w.cell? ⟨q9, 1, none⟩ = some (.slice (some ⟨gB, 0, none⟩) n n) := h9.cell 1
  have c2 : w.cell? ⟨q11, 0, none⟩ = some (.int .u64 (s : Int)) := h11.cell 0
  have hx0 : (0 : Int) ≤ (x : Int) := by omega
  have hx1 : (x : Int) < (n : Int) := by omega
  generalize (byL n l).getD x 0 = bx at *
  have Hfi := Lib.hid hfi2; have Hand := Lib.hid hand
  clear hfi hfi2 hand hby hsu hbit hpk hlt h9 h11 hr ha hf
  go_enter Tryd.func79, Tryd.ntmps79
  go_wp2_with fail
  refine wp_region_textB [7] (fun w' => Below w.heap.size w w') (fun _ => True) (by kernel_rfl) (by kernel_rfl) (by kernel_rfl) (Below.refl _ _).drew trivial ?_
  repeat (first
    | (refine TxtBL.skip (by rfl) ?_; simp only [Act.put, List.setIfInBounds_toArray, List.set_cons_zero, List.set_cons_succ])
    | (refine TxtBL.take (by rfl) (by rfl) ?_; apply Exists.intro; refine ⟨fun w1 hS1 => ?_, ?_⟩; (focus ((have g1 := (hS1.cell (lt_of_cell c1)).trans c1); (have g2 := (hS1.cell (lt_of_cell c2)).trans c2); (have g3 := (hS1.cell (lt_of_cell hc2)).trans hc2); go_simp; with_reducible rfl)); simp only [Act.put, List.setIfInBounds_toArray, List.set_cons_zero, List.set_cons_succ])
    | (refine TxtBL.takeE (by rfl) (by rfl) ?_; apply Exists.intro; refine ⟨fun w1 hS1 => ?_, ?_⟩; (focus ((have g1 := (hS1.cell (lt_of_cell c1)).trans c1); (have g2 := (hS1.cell (lt_of_cell c2)).trans c2); (have g3 := (hS1.cell (lt_of_cell hc2)).trans hc2); go_simp; with_reducible rfl)); simp only [Act.put, List.setIfInBounds_toArray, List.set_cons_zero, List.set_cons_succ]))
  rw [Hand.out]
  refine TxtBL.call (f := 80) (args := #[.int .u64 ((bx &&& s : Nat) : Int)]) (fun u => u = .int .i64 (pickS n (attQ l) s x : Int)) (fun _ _ => True) (by rfl) (by rfl) ⟨_, rfl⟩ (fun w1 hS1 hJ1 => by go_simp) (fun w2 hS2 hJ1 => ?_) ?_
  · refine (Hfi.out w2 (hT.below hS2)).mono ?_
    rintro e w' ⟨rfl, hb⟩
    exact ⟨_, rfl, hS2.trans (hb.mono hS2.size), rfl, trivial⟩
  rintro _ rfl
  simp only [Act.put, List.setIfInBounds_toArray, List.set_cons_zero, List.set_cons_succ]
  repeat (first
    | (refine TxtBL.skip (by rfl) ?_; simp only [Act.put, List.setIfInBounds_toArray, List.set_cons_zero, List.set_cons_succ])
    | (refine TxtBL.take (by rfl) (by rfl) ?_; apply Exists.intro; refine ⟨fun w1 hS1 => ?_, ?_⟩; (focus (skip; go_simp; with_reducible rfl)); simp only [Act.put, List.setIfInBounds_toArray, List.set_cons_zero, List.set_cons_succ])
    | (refine TxtBL.takeE (by rfl) (by rfl) ?_; apply Exists.intro; refine ⟨fun w1 hS1 => ?_, ?_⟩; (focus (skip; go_simp; with_reducible rfl)); simp only [Act.put, List.setIfInBounds_toArray, List.set_cons_zero, List.set_cons_succ]))
  refine TxtBL.nil (fun W3 hS3 _ => ?_)
  go_wp2_with fail
  go_ret
  exact ⟨rfl, hS3⟩
def BxS (o : Option Nat) (m : Nat) (w : World) : Prop := ∀ q, o = some q → m ≤ q ∧ Blk w q 93 #[.int .u64 0]
theorem BxS.no {m : Nat} {w : World} : BxS Option.none m w := fun q e => by cases e
theorem BxS.new {m : Nat} {w : World} (h : m ≤ w.heap.size) : BxS (some w.heap.size) m (w.alloc (.cells #[.int .u64 0] 93)) := fun q e => by
  injection e with e; subst e; exact ⟨h, Blk.new _ _ _⟩
theorem BxS.below {o : Option Nat} {m : Nat} {w w' : World} (h : BxS o m w) (hb : Below w.heap.size w w') : BxS o m w' := fun q e => ⟨(h q e).1, (h q e).2.below hb (h q e).2.lt⟩
/-- the credulous game's strategy -/
def RetSo (n : Nat) (l : List (Int × Int)) (root : Nat) (sr : Option Nat) (w : World) : Ending → World → Prop := fun e w' => Below w.heap.size w w' ∧
  match sr with
  | none => e = .returned (.tuple #[.agg #[.int .i64 2, .int .i64 (root : Int), .int .i64 2, .slice none 0 0], .int .i64 0])
  | some s => ∃ (R : List Nat) (OO : List (Nat × Nat)) (A : Option Addr) (c : Nat), e = .returned (.tuple #[.agg #[.int .i64 2, .int .i64 (root : Int), .int .i64 1, .slice A OO.length c], .int .i64 0]) ∧
      AnOk n (attQ l) (pickS n (attQ l) s) (fun a => s.testBit a = true) root R OO ∧ OO.length ≤ n ∧ RP w' A (OO.map toI) ∧ ∀ b o, A = some ⟨b, o, none⟩ → w.heap.size ≤ b
theorem RU.far {w : World} {g : Nat} {l : List Nat} (h : RU w (some ⟨g, 0, none⟩) l) {p : Addr} (hp : g ≠ p.block) (v : Value) : RU (w.setCell p v) (some ⟨g, 0, none⟩) l := fun k hk => by
  obtain ⟨b, o, e, h0⟩ := h k hk
  refine ⟨b, o, e, ?_⟩
  injection e with e; injection e with e1 _ _; subst e1
  exact (World.cell?_setCell_far _ _ _ _ (Ne.symm hp)).trans h0
theorem cnt_ge (n s : Nat) : n < n + 1 + cntS n s := by omega

set_option maxRecDepth 100000 in
set_option maxHeartbeats 8000000 in
theorem gSolveC_any (A : Option Addr) {n : Nat} {l : List (Int × Int)} (c : Nat) (root : Nat) (hv : Vld n l) (hroot : root < n) (hn10 : n ≤ 10) (w : World) (hr : RP w A l) (hT : Tab w) :
    Calls Tryd.prog 35 #[.agg #[.int .i64 (n : Int), .slice A l.length c], .int .i64 2, .int .i64 (root : Int)] w (RetSo n l root (srS n (attQ l) (n + 1) (1 <<< root)) w) := by
  have hmf : ∀ fn first cap w, (Instr.makeFunc fn first cap).run Tryd.prog w = .ok (.func fn first cap) w := fun _ _ _ _ => rfl
  have hval := hv.valE
  have hr64 : root < 64 := by omega
  have hs0 : 1 <<< root < 2 ^ n := by rw [Nat.one_shiftLeft]; exact Nat.pow_lt_pow_right (by omega) hroot
  have hw0 : ∀ W, Calls Tryd.prog 65 #[.int .u64 0, .int .i64 (root : Int)] W (Ret (.int .u64 ((1 <<< root : Nat) : Int)) W) := fun W => by
    have h := netWith_any 0 root (by omega) hr64 W
    rwa [Nat.zero_or] at h
  have hse := fun gB gO W hTW hrW => gSearch_any hv.1 (some ⟨gB, 0, none⟩) (some ⟨gO, 0, none⟩) (n + 1) (1 <<< root) W hs0 (cnt_ge _ _) hTW hrW
  have hsnd : ∀ r, srS n (attQ l) (n + 1) (1 <<< root) = some r → AdmS n (attQ l) r ∧ r.testBit root = true ∧ r < 2 ^ n := fun r h => by
    obtain ⟨h1, h2⟩ := srS_sound h
    exact ⟨h1, h2 root (by rw [Nat.one_shiftLeft, Nat.testBit_two_pow]; simp), srS_lt hs0 h⟩
  generalize srS n (attQ l) (n + 1) (1 <<< root) = sr at hse hsnd ⊢
  have Hw0 := Lib.hid hw0; have Hse0 := Lib.hid hse; have Hsnd := Lib.hid hsnd; have Hv := Lib.hid hv; have Hval := Lib.hid hval
  have hri : (0 : Int) ≤ (root : Int) := by omega
  have hrn : (root : Int) < (n : Int) := by omega
  have hni : (n : Int) ≤ 10 := by omega
  have hlen := hv.1.2.1
  clear hw0 hse hsnd hs0 hr64 hv hval
  go_enter Tryd.func35, Tryd.ntmps35
  go_wp2_with fail
  obtain ⟨W0, hW, k0, k1, hb0, hs0⟩ : ∃ W0, (w.alloc (.cells #[.int .i64 (n : Int), .slice A l.length c] 24)).alloc (.cells #[.int .i64 0, .int .i64 0, .int .i64 0, .slice none 0 0] 64) = W0 ∧ Blk W0 w.heap.size 24 #[.int .i64 (n : Int), .slice A l.length c] ∧ Blk W0 (w.heap.size + 1) 64 #[.int .i64 0, .int .i64 0, .int .i64 0, .slice none 0 0] ∧ Below w.heap.size w W0 ∧ W0.heap.size = w.heap.size + 2 :=
    ⟨_, rfl, (Blk.new _ _ _).alloc _, by have := Blk.new (w.alloc (.cells #[.int .i64 (n : Int), .slice A l.length c] 24)) 64 #[.int .i64 0, .int .i64 0, .int .i64 0, .slice none 0 0]; rw [World.size_alloc] at this; exact this, ((Below.refl _ _).alloc (Nat.le_refl _) _).alloc (by simp) _, by simp⟩
  rw [hW]
  have hr0 := hr.below hb0
  have hT0 := hT.below hb0
  have HT := Lib.hid hT
  clear hW hr hT
  refine (gValidate_any A n l c W0 hr0 hlen).mono ?_
  rintro e w1 ⟨rfl, hb1⟩
  rw [Hval.out]
  obtain ⟨c0, c1, -, -⟩ := (k0.below hb1 k0.lt).two
  have k1' := k1.below hb1 k1.lt
  have hr1 := hr0.below hb1
  have hT1 := hT0.below hb1
  have hb01 := endB hb0 hb1
  have hs1 : w.heap.size + 2 ≤ w1.heap.size := by have := hb1.size; omega
  clear k0 k1 hr0 hT0 hb0 hb1 hs0 Hval
  go_wp2_with fail
  refine (gExists_any 2 w1).mono ?_
  rintro e w2 ⟨rfl, rfl⟩
  go_wp2_with fail
  refine (netNew_any A n l c w1 hr1 Hv.out.1).mono ?_
  rintro e w3 ⟨gB, gO, rfl, hgB, hgO, hrB, hrO, hb3⟩
  have k3 := k1'.below hb3 k1'.lt
  have hT3 := hT1.below hb3
  have hb03 := endB hb01 hb3
  have hs3 := Nat.le_trans hs1 hb3.size
  have hnr : NetR w3 n l (some ⟨gB, 0, none⟩) (some ⟨gO, 0, none⟩) := ⟨hrB, hrO⟩
  have Hse := Lib.hid (Hse0.out gB gO)
  have hgBl : gB < w3.heap.size := by obtain ⟨b, o, e, h⟩ := hnr.b 0 (by rw [byL_length]; omega); injection e with e; injection e with e _ _; rw [e]; exact lt_of_cell h
  have hgOl : gO < w3.heap.size := by obtain ⟨b, o, e, h⟩ := hnr.o 0 (by rw [outL_length]; omega); injection e with e; injection e with e _ _; rw [e]; exact lt_of_cell h
  clear c0 c1 k1' hr1 hT1 hb01 hb3 hs1 hrB hrO Hse0
  go_wp2_with fail
  obtain ⟨W5, hW5, k9, k10, hb5, hs5⟩ : ∃ W5, (w3.alloc (.cells #[.int .u64 ((allN n : Nat) : Int), .slice (some ⟨gB, 0, none⟩) n n, .slice (some ⟨gO, 0, none⟩) n n] 97)).alloc (.cells #[.int .i64 2, .int .i64 (root : Int), .int .i64 2, .slice none 0 0] 64) = W5 ∧ Blk W5 w3.heap.size 97 #[.int .u64 ((allN n : Nat) : Int), .slice (some ⟨gB, 0, none⟩) n n, .slice (some ⟨gO, 0, none⟩) n n] ∧ Blk W5 (w3.heap.size + 1) 64 #[.int .i64 2, .int .i64 (root : Int), .int .i64 2, .slice none 0 0] ∧ Below w3.heap.size w3 W5 ∧ W5.heap.size = w3.heap.size + 2 :=
    ⟨_, rfl, (Blk.new _ _ _).alloc _, by have := Blk.new (w3.alloc (.cells #[.int .u64 ((allN n : Nat) : Int), .slice (some ⟨gB, 0, none⟩) n n, .slice (some ⟨gO, 0, none⟩) n n] 97)) 64 #[.int .i64 2, .int .i64 (root : Int), .int .i64 2, .slice none 0 0]; rw [World.size_alloc] at this; exact this, ((Below.refl _ _).alloc (Nat.le_refl _) _).alloc (by simp) _, by simp⟩
  rw [hW5]
  have k5 := k3.below hb5 k3.lt
  have hT5 := hT3.below hb5
  have hnr5 := hnr.below hb5
  have hb05 := endB hb03 hb5
  have n0 : W5.cell? ⟨w3.heap.size, 0, none⟩ = some (.int .u64 ((allN n : Nat) : Int)) := k9.cell 0
  have n1 : W5.cell? ⟨w3.heap.size, 1, none⟩ = some (.slice (some ⟨gB, 0, none⟩) n n) := k9.cell 1
  have n2 : W5.cell? ⟨w3.heap.size, 2, none⟩ = some (.slice (some ⟨gO, 0, none⟩) n n) := k9.cell 2
  clear hW5 k3 hT3 hnr hb03 hb5
  generalize w3.heap.size = G at *
  go_cut [11, 12] (fun t11 t12 wx => ∃ q, t11 = Value.pointer (some ⟨q, 0, none⟩) ∧ t12 = .bool sr.isSome ∧ W5.heap.size ≤ q ∧ Blk wx q 93 #[.int .u64 ((sr.getD 0 : Nat) : Int)] ∧ Below W5.heap.size W5 wx)
  case first =>
    refine wp_region_tree [2, 3, 7, 8] (fun w' => Below W5.heap.size W5 w') (fun w' => BxS none W5.heap.size w') 10 [0, 1, 2, 3, 4, 5, 6, 7, 8, 9] (by rfl) (by decide) (by kernel_rfl) (by kernel_rfl) (Below.refl _ _).drew BxS.no ?_
    refine TxtT.pure 0 (by rfl) (by rw [List.getElem?_toArray]; rfl) (by rfl) (by as_aux_lemma => kernel_rfl) (by rfl) ?_; apply Exists.intro; refine ⟨fun w1 hS1 => ?_, ?_⟩; (focus ((have g0 := (hS1.cell (lt_of_cell n0)).trans n0; have g1 := (hS1.cell (lt_of_cell n1)).trans n1; have g2 := (hS1.cell (lt_of_cell n2)).trans n2); go_simp; with_reducible rfl))
    rw [show List.erase [0, 1, 2, 3, 4, 5, 6, 7, 8, 9] 0 = [1, 2, 3, 4, 5, 6, 7, 8, 9] from rfl]; simp only [Act.put, List.setIfInBounds_toArray, List.set_cons_zero, List.set_cons_succ]
    refine TxtT.pure 1 (by rfl) (by rw [List.getElem?_toArray]; rfl) (by rfl) (by as_aux_lemma => kernel_rfl) (by rfl) ?_; apply Exists.intro; refine ⟨fun w1 hS1 => ?_, ?_⟩; (focus (skip; go_simp; with_reducible rfl))
    rw [show List.erase [1, 2, 3, 4, 5, 6, 7, 8, 9] 1 = [2, 3, 4, 5, 6, 7, 8, 9] from rfl]; simp only [Act.put, List.setIfInBounds_toArray, List.set_cons_zero, List.set_cons_succ]
    refine TxtT.two 2 7 (by as_aux_lemma => kernel_rfl) (by rw [List.getElem?_toArray]; rfl) (by rw [List.getElem?_toArray]; rfl) (by rfl) (by rfl) (by rfl) (by rfl) (fun v => v = .int .u64 ((1 <<< root : Nat) : Int)) (fun _ w' => BxS none W5.heap.size w') (fun v => ∃ q, v = Value.pointer (some ⟨q, 0, none⟩)) (fun v w' => ∃ q, v = Value.pointer (some ⟨q, 0, none⟩) ∧ BxS (some q) W5.heap.size w') (fun w1 hS1 hJ1 => ?_) (fun w1 hS1 hJ1 => ?_) ?_ ?_
    · refine Eff.call (f := 65) (args := #[.int .u64 0, .int .i64 (root : Int)]) (by go_simp) ((Hw0.out w1).mono ?_)
      rintro e w' ⟨rfl, rfl⟩
      exact ⟨_, rfl, hS1, rfl, hJ1⟩
    · exact Eff.value (w' := w1.alloc (.cells #[.int .u64 0] 93)) (v := .pointer (some ⟨w1.heap.size, 0, none⟩)) (by go_simp) ⟨hS1.trans ((newB _ _).mono hS1.size), ⟨_, rfl⟩, _, rfl, BxS.new hS1.size⟩
    ·
      rintro _ rfl
      rw [show List.erase [2, 3, 4, 5, 6, 7, 8, 9] 2 = [3, 4, 5, 6, 7, 8, 9] from rfl]; simp only [Act.put, List.setIfInBounds_toArray, List.set_cons_zero, List.set_cons_succ]
      refine TxtT.two 3 7 (by as_aux_lemma => kernel_rfl) (by rw [List.getElem?_toArray]; rfl) (by rw [List.getElem?_toArray]; rfl) (by rfl) (by rfl) (by rfl) (by rfl) (fun v => v = .tuple #[.int .u64 ((sr.getD 0 : Nat) : Int), .bool sr.isSome]) (fun _ w' => BxS none W5.heap.size w') (fun v => ∃ q, v = Value.pointer (some ⟨q, 0, none⟩)) (fun v w' => ∃ q, v = Value.pointer (some ⟨q, 0, none⟩) ∧ BxS (some q) W5.heap.size w') (fun w1 hS1 hJ1 => ?_) (fun w1 hS1 hJ1 => ?_) ?_ ?_
      · refine Eff.call (f := 77) (args := #[.agg #[.int .u64 ((allN n : Nat) : Int), .slice (some ⟨gB, 0, none⟩) n n, .slice (some ⟨gO, 0, none⟩) n n], .int .u64 ((1 <<< root : Nat) : Int)]) (by go_simp) ((Hse.out w1 (hT5.below hS1) (hnr5.below hS1)).mono ?_)
        rintro e w' ⟨rfl, hb⟩
        exact ⟨_, rfl, hS1.trans (hb.mono hS1.size), rfl, hJ1.below hb⟩
      · exact Eff.value (w' := w1.alloc (.cells #[.int .u64 0] 93)) (v := .pointer (some ⟨w1.heap.size, 0, none⟩)) (by go_simp) ⟨hS1.trans ((newB _ _).mono hS1.size), ⟨_, rfl⟩, _, rfl, BxS.new hS1.size⟩
      ·
        rintro _ rfl
        rw [show List.erase [3, 4, 5, 6, 7, 8, 9] 3 = [4, 5, 6, 7, 8, 9] from rfl]; simp only [Act.put, List.setIfInBounds_toArray, List.set_cons_zero, List.set_cons_succ]
        refine TxtT.pure 4 (by rfl) (by rw [List.getElem?_toArray]; rfl) (by rfl) (by as_aux_lemma => kernel_rfl) (by rfl) ?_; apply Exists.intro; refine ⟨fun w1 hS1 => ?_, ?_⟩; (focus (skip; go_simp; with_reducible rfl))
        rw [show List.erase [4, 5, 6, 7, 8, 9] 4 = [5, 6, 7, 8, 9] from rfl]; simp only [Act.put, List.setIfInBounds_toArray, List.set_cons_zero, List.set_cons_succ]
        refine TxtT.pure 5 (by rfl) (by rw [List.getElem?_toArray]; rfl) (by rfl) (by as_aux_lemma => kernel_rfl) (by rfl) ?_; apply Exists.intro; refine ⟨fun w1 hS1 => ?_, ?_⟩; (focus (skip; go_simp; with_reducible rfl))
        rw [show List.erase [5, 6, 7, 8, 9] 5 = [6, 7, 8, 9] from rfl]; simp only [Act.put, List.setIfInBounds_toArray, List.set_cons_zero, List.set_cons_succ]
        refine TxtT.pure 6 (by rfl) (by rw [List.getElem?_toArray]; rfl) (by rfl) (by as_aux_lemma => kernel_rfl) (by rfl) ?_; apply Exists.intro; refine ⟨fun w1 hS1 => ?_, ?_⟩; (focus (skip; go_simp; with_reducible rfl))
        rw [show List.erase [6, 7, 8, 9] 6 = [7, 8, 9] from rfl]; simp only [Act.put, List.setIfInBounds_toArray, List.set_cons_zero, List.set_cons_succ]
        refine TxtT.one 7 (by as_aux_lemma => kernel_rfl) (by rw [List.getElem?_toArray]; rfl) (by rfl) (by rfl) (fun v => ∃ q, v = Value.pointer (some ⟨q, 0, none⟩)) (fun v w' => ∃ q, v = Value.pointer (some ⟨q, 0, none⟩) ∧ BxS (some q) W5.heap.size w') (fun w1 hS1 hJ1 => ?_) ?_
        · exact Eff.value (w' := w1.alloc (.cells #[.int .u64 0] 93)) (v := .pointer (some ⟨w1.heap.size, 0, none⟩)) (by go_simp) ⟨hS1.trans ((newB _ _).mono hS1.size), ⟨_, rfl⟩, _, rfl, BxS.new hS1.size⟩
        rintro _ ⟨q, rfl⟩
        rw [show List.erase [7, 8, 9] 7 = [8, 9] from rfl]; simp only [Act.put, List.setIfInBounds_toArray, List.set_cons_zero, List.set_cons_succ]
        refine TxtT.weakJ (J2 := fun w' => BxS (some q) W5.heap.size w') (fun w1 h => by obtain ⟨q', hq, h⟩ := h; injection hq with hq; injection hq with hq; injection hq with hq _ _; subst hq; exact h) ?_
        refine TxtT.one 8 (by as_aux_lemma => kernel_rfl) (by rw [List.getElem?_toArray]; rfl) (by rfl) (by rfl) (fun v => v = undef) (fun _ w' => W5.heap.size ≤ q ∧ Blk w' q 93 #[.int .u64 ((sr.getD 0 : Nat) : Int)]) (fun w1 hS1 hJ1 => ?_) ?_
        · obtain ⟨hq, hk⟩ := hJ1 q rfl
          have z0 := hk.frozen 0
          have g0 : w1.cell? ⟨q, 0, none⟩ = some (.int .u64 0) := hk.cell 0
          exact Eff.skip (w' := w1.setCell ⟨q, 0, none⟩ (.int .u64 ((sr.getD 0 : Nat) : Int))) (by go_simp) ⟨hS1.setCell (p := ⟨q, 0, none⟩) hq _, rfl, hq, hk.set_ 0 _⟩
        rintro _ rfl
        rw [show List.erase [8, 9] 8 = [9] from rfl]; simp only [Act.put]
        refine TxtT.pure 9 (by rfl) (by rw [List.getElem?_toArray]; rfl) (by rfl) (by as_aux_lemma => kernel_rfl) (by rfl) ?_; apply Exists.intro; refine ⟨fun w1 hS1 => ?_, ?_⟩; (focus (skip; go_simp; with_reducible rfl))
        rw [show List.erase [9] 9 = [] from rfl]; simp only [Act.put, List.setIfInBounds_toArray, List.set_cons_zero, List.set_cons_succ]
        refine ⟨rfl, fun w1 hS1 hJ1 => ?_⟩
        go_wp2_with fail
        go_meet
        exact ⟨q, rfl, rfl, hJ1.1, hJ1.2, hS1⟩
      ·
        rintro _ ⟨q, rfl⟩
        rw [show List.erase [3, 4, 5, 6, 7, 8, 9] 7 = [3, 4, 5, 6, 8, 9] from rfl]; simp only [Act.put, List.setIfInBounds_toArray, List.set_cons_zero, List.set_cons_succ]
        refine TxtT.weakJ (J2 := fun w' => BxS (some q) W5.heap.size w') (fun w1 h => by obtain ⟨q', hq, h⟩ := h; injection hq with hq; injection hq with hq; injection hq with hq _ _; subst hq; exact h) ?_
        refine TxtT.one 3 (by as_aux_lemma => kernel_rfl) (by rw [List.getElem?_toArray]; rfl) (by rfl) (by rfl) (fun v => v = .tuple #[.int .u64 ((sr.getD 0 : Nat) : Int), .bool sr.isSome]) (fun _ w' => BxS (some q) W5.heap.size w') (fun w1 hS1 hJ1 => ?_) ?_
        · refine Eff.call (f := 77) (args := #[.agg #[.int .u64 ((allN n : Nat) : Int), .slice (some ⟨gB, 0, none⟩) n n, .slice (some ⟨gO, 0, none⟩) n n], .int .u64 ((1 <<< root : Nat) : Int)]) (by go_simp) ((Hse.out w1 (hT5.below hS1) (hnr5.below hS1)).mono ?_)
          rintro e w' ⟨rfl, hb⟩
          exact ⟨_, rfl, hS1.trans (hb.mono hS1.size), rfl, hJ1.below hb⟩
        rintro _ rfl
        rw [show List.erase [3, 4, 5, 6, 8, 9] 3 = [4, 5, 6, 8, 9] from rfl]; simp only [Act.put, List.setIfInBounds_toArray, List.set_cons_zero, List.set_cons_succ]
        refine TxtT.pure 4 (by rfl) (by rw [List.getElem?_toArray]; rfl) (by rfl) (by as_aux_lemma => kernel_rfl) (by rfl) ?_; apply Exists.intro; refine ⟨fun w1 hS1 => ?_, ?_⟩; (focus (skip; go_simp; with_reducible rfl))
        rw [show List.erase [4, 5, 6, 8, 9] 4 = [5, 6, 8, 9] from rfl]; simp only [Act.put, List.setIfInBounds_toArray, List.set_cons_zero, List.set_cons_succ]
        refine TxtT.pure 5 (by rfl) (by rw [List.getElem?_toArray]; rfl) (by rfl) (by as_aux_lemma => kernel_rfl) (by rfl) ?_; apply Exists.intro; refine ⟨fun w1 hS1 => ?_, ?_⟩; (focus (skip; go_simp; with_reducible rfl))
        rw [show List.erase [5, 6, 8, 9] 5 = [6, 8, 9] from rfl]; simp only [Act.put, List.setIfInBounds_toArray, List.set_cons_zero, List.set_cons_succ]
        refine TxtT.pure 6 (by rfl) (by rw [List.getElem?_toArray]; rfl) (by rfl) (by as_aux_lemma => kernel_rfl) (by rfl) ?_; apply Exists.intro; refine ⟨fun w1 hS1 => ?_, ?_⟩; (focus (skip; go_simp; with_reducible rfl))
        rw [show List.erase [6, 8, 9] 6 = [8, 9] from rfl]; simp only [Act.put, List.setIfInBounds_toArray, List.set_cons_zero, List.set_cons_succ]
        refine TxtT.one 8 (by as_aux_lemma => kernel_rfl) (by rw [List.getElem?_toArray]; rfl) (by rfl) (by rfl) (fun v => v = undef) (fun _ w' => W5.heap.size ≤ q ∧ Blk w' q 93 #[.int .u64 ((sr.getD 0 : Nat) : Int)]) (fun w1 hS1 hJ1 => ?_) ?_
        · obtain ⟨hq, hk⟩ := hJ1 q rfl
          have z0 := hk.frozen 0
          have g0 : w1.cell? ⟨q, 0, none⟩ = some (.int .u64 0) := hk.cell 0
          exact Eff.skip (w' := w1.setCell ⟨q, 0, none⟩ (.int .u64 ((sr.getD 0 : Nat) : Int))) (by go_simp) ⟨hS1.setCell (p := ⟨q, 0, none⟩) hq _, rfl, hq, hk.set_ 0 _⟩
        rintro _ rfl
        rw [show List.erase [8, 9] 8 = [9] from rfl]; simp only [Act.put]
        refine TxtT.pure 9 (by rfl) (by rw [List.getElem?_toArray]; rfl) (by rfl) (by as_aux_lemma => kernel_rfl) (by rfl) ?_; apply Exists.intro; refine ⟨fun w1 hS1 => ?_, ?_⟩; (focus (skip; go_simp; with_reducible rfl))
        rw [show List.erase [9] 9 = [] from rfl]; simp only [Act.put, List.setIfInBounds_toArray, List.set_cons_zero, List.set_cons_succ]
        refine ⟨rfl, fun w1 hS1 hJ1 => ?_⟩
        go_wp2_with fail
        go_meet
        exact ⟨q, rfl, rfl, hJ1.1, hJ1.2, hS1⟩
    ·
      rintro _ ⟨q, rfl⟩
      rw [show List.erase [2, 3, 4, 5, 6, 7, 8, 9] 7 = [2, 3, 4, 5, 6, 8, 9] from rfl]; simp only [Act.put, List.setIfInBounds_toArray, List.set_cons_zero, List.set_cons_succ]
      refine TxtT.weakJ (J2 := fun w' => BxS (some q) W5.heap.size w') (fun w1 h => by obtain ⟨q', hq, h⟩ := h; injection hq with hq; injection hq with hq; injection hq with hq _ _; subst hq; exact h) ?_
      refine TxtT.one 2 (by as_aux_lemma => kernel_rfl) (by rw [List.getElem?_toArray]; rfl) (by rfl) (by rfl) (fun v => v = .int .u64 ((1 <<< root : Nat) : Int)) (fun _ w' => BxS (some q) W5.heap.size w') (fun w1 hS1 hJ1 => ?_) ?_
      · refine Eff.call (f := 65) (args := #[.int .u64 0, .int .i64 (root : Int)]) (by go_simp) ((Hw0.out w1).mono ?_)
        rintro e w' ⟨rfl, rfl⟩
        exact ⟨_, rfl, hS1, rfl, hJ1⟩
      rintro _ rfl
      rw [show List.erase [2, 3, 4, 5, 6, 8, 9] 2 = [3, 4, 5, 6, 8, 9] from rfl]; simp only [Act.put, List.setIfInBounds_toArray, List.set_cons_zero, List.set_cons_succ]
      refine TxtT.one 3 (by as_aux_lemma => kernel_rfl) (by rw [List.getElem?_toArray]; rfl) (by rfl) (by rfl) (fun v => v = .tuple #[.int .u64 ((sr.getD 0 : Nat) : Int), .bool sr.isSome]) (fun _ w' => BxS (some q) W5.heap.size w') (fun w1 hS1 hJ1 => ?_) ?_
      · refine Eff.call (f := 77) (args := #[.agg #[.int .u64 ((allN n : Nat) : Int), .slice (some ⟨gB, 0, none⟩) n n, .slice (some ⟨gO, 0, none⟩) n n], .int .u64 ((1 <<< root : Nat) : Int)]) (by go_simp) ((Hse.out w1 (hT5.below hS1) (hnr5.below hS1)).mono ?_)
        rintro e w' ⟨rfl, hb⟩
        exact ⟨_, rfl, hS1.trans (hb.mono hS1.size), rfl, hJ1.below hb⟩
      rintro _ rfl
      rw [show List.erase [3, 4, 5, 6, 8, 9] 3 = [4, 5, 6, 8, 9] from rfl]; simp only [Act.put, List.setIfInBounds_toArray, List.set_cons_zero, List.set_cons_succ]
      refine TxtT.pure 4 (by rfl) (by rw [List.getElem?_toArray]; rfl) (by rfl) (by as_aux_lemma => kernel_rfl) (by rfl) ?_; apply Exists.intro; refine ⟨fun w1 hS1 => ?_, ?_⟩; (focus (skip; go_simp; with_reducible rfl))
      rw [show List.erase [4, 5, 6, 8, 9] 4 = [5, 6, 8, 9] from rfl]; simp only [Act.put, List.setIfInBounds_toArray, List.set_cons_zero, List.set_cons_succ]
      refine TxtT.pure 5 (by rfl) (by rw [List.getElem?_toArray]; rfl) (by rfl) (by as_aux_lemma => kernel_rfl) (by rfl) ?_; apply Exists.intro; refine ⟨fun w1 hS1 => ?_, ?_⟩; (focus (skip; go_simp; with_reducible rfl))
      rw [show List.erase [5, 6, 8, 9] 5 = [6, 8, 9] from rfl]; simp only [Act.put, List.setIfInBounds_toArray, List.set_cons_zero, List.set_cons_succ]
      refine TxtT.pure 6 (by rfl) (by rw [List.getElem?_toArray]; rfl) (by rfl) (by as_aux_lemma => kernel_rfl) (by rfl) ?_; apply Exists.intro; refine ⟨fun w1 hS1 => ?_, ?_⟩; (focus (skip; go_simp; with_reducible rfl))
      rw [show List.erase [6, 8, 9] 6 = [8, 9] from rfl]; simp only [Act.put, List.setIfInBounds_toArray, List.set_cons_zero, List.set_cons_succ]
      refine TxtT.one 8 (by as_aux_lemma => kernel_rfl) (by rw [List.getElem?_toArray]; rfl) (by rfl) (by rfl) (fun v => v = undef) (fun _ w' => W5.heap.size ≤ q ∧ Blk w' q 93 #[.int .u64 ((sr.getD 0 : Nat) : Int)]) (fun w1 hS1 hJ1 => ?_) ?_
      · obtain ⟨hq, hk⟩ := hJ1 q rfl
        have z0 := hk.frozen 0
        have g0 : w1.cell? ⟨q, 0, none⟩ = some (.int .u64 0) := hk.cell 0
        exact Eff.skip (w' := w1.setCell ⟨q, 0, none⟩ (.int .u64 ((sr.getD 0 : Nat) : Int))) (by go_simp) ⟨hS1.setCell (p := ⟨q, 0, none⟩) hq _, rfl, hq, hk.set_ 0 _⟩
      rintro _ rfl
      rw [show List.erase [8, 9] 8 = [9] from rfl]; simp only [Act.put]
      refine TxtT.pure 9 (by rfl) (by rw [List.getElem?_toArray]; rfl) (by rfl) (by as_aux_lemma => kernel_rfl) (by rfl) ?_; apply Exists.intro; refine ⟨fun w1 hS1 => ?_, ?_⟩; (focus (skip; go_simp; with_reducible rfl))
      rw [show List.erase [9] 9 = [] from rfl]; simp only [Act.put, List.setIfInBounds_toArray, List.set_cons_zero, List.set_cons_succ]
      refine ⟨rfl, fun w1 hS1 hJ1 => ?_⟩
      go_wp2_with fail
      go_meet
      exact ⟨q, rfl, rfl, hJ1.1, hJ1.2, hS1⟩
  obtain ⟨q, rfl, rfl, hq, kq, hS⟩ := hcut
  have k9 := k9.below hS k9.lt
  have k10 := k10.below hS k10.lt
  have k5 := k5.below hS k5.lt
  have hTc := hT5.below hS
  have hnrc := hnr5.below hS
  have hbc := endB hb05 hS
  clear n0 n1 n2 hT5 hnr5 hb05 hS Hse Hw0
  cases sr with
  | none =>
    have a0 : wc.cell? ⟨G + 1, 0, none⟩ = some (.int .i64 2) := k10.cell 0
    have a1 : wc.cell? ⟨G + 1, 1, none⟩ = some (.int .i64 (root : Int)) := k10.cell 1
    have a2 : wc.cell? ⟨G + 1, 2, none⟩ = some (.int .i64 2) := k10.cell 2
    have a3 : wc.cell? ⟨G + 1, 3, none⟩ = some (.slice none 0 0) := k10.cell 3
    have z0 := k5.frozen 0; have z1 := k5.frozen 1; have z2 := k5.frozen 2; have z3 := k5.frozen 3
    have y0 : wc.cell? ⟨w.heap.size + 1, 0, none⟩ = some (.int .i64 0) := k5.cell 0
    have y1 : wc.cell? ⟨w.heap.size + 1, 1, none⟩ = some (.int .i64 0) := k5.cell 1
    have y2 : wc.cell? ⟨w.heap.size + 1, 2, none⟩ = some (.int .i64 0) := k5.cell 2
    have y3 : wc.cell? ⟨w.heap.size + 1, 3, none⟩ = some (.slice none 0 0) := k5.cell 3
    have k6 := (((k5.set_ 0 (.int .i64 2)).set_ 1 (.int .i64 (root : Int))).set_ 2 (.int .i64 2)).set_ 3 (.slice none 0 0)
    have u0 := k6.cell 0; have u1 := k6.cell 1; have u2 := k6.cell 2; have u3 := k6.cell 3
    simp at u0 u1 u2 u3
    clear k6 k5 k9 k10 kq
    go_wp2_with fail
    refine bodyPost_ret (v := .tuple #[.agg #[.int .i64 2, .int .i64 (root : Int), .int .i64 2, .slice none 0 0], .int .i64 0]) (by simp [results, Tryd.results35, go_sem, u0, u1, u2, u3]) rfl ?_
    refine ⟨(((hbc.setCell (p := ⟨w.heap.size + 1, 0, none⟩) (Nat.le_succ _) _).setCell (p := ⟨w.heap.size + 1, 1, none⟩) (Nat.le_succ _) _).setCell (p := ⟨w.heap.size + 1, 2, none⟩) (Nat.le_succ _) _).setCell (p := ⟨w.heap.size + 1, 3, none⟩) (Nat.le_succ _) _, rfl⟩
  | some s =>
  obtain ⟨ha, hsr, hslt⟩ := Hsnd.out s rfl
  obtain ⟨w6, hw6⟩ : ∃ w6, wc.setCell ⟨G + 1, 2, none⟩ (.int .i64 1) = w6 := ⟨_, rfl⟩
  have hGs := k10.lt
  have hGw : w.heap.size + 1 ≤ G := by omega
  have k96 : Blk w6 G 97 #[.int .u64 ((allN n : Nat) : Int), .slice (some ⟨gB, 0, none⟩) n n, .slice (some ⟨gO, 0, none⟩) n n] := by rw [← hw6]; exact k9.far (p := ⟨G + 1, 2, none⟩) (by simp) _
  have k106 : Blk w6 (G + 1) 64 #[.int .i64 2, .int .i64 (root : Int), .int .i64 1, .slice none 0 0] := by rw [← hw6]; exact k10.set_ 2 _
  have k56 : Blk w6 (w.heap.size + 1) 64 #[.int .i64 0, .int .i64 0, .int .i64 0, .slice none 0 0] := by rw [← hw6]; exact k5.far (p := ⟨G + 1, 2, none⟩) (by show w.heap.size + 1 ≠ G + 1; omega) _
  have kq6 : Blk w6 q 93 #[.int .u64 (s : Int)] := by rw [← hw6]; exact kq.far (p := ⟨G + 1, 2, none⟩) (by show q ≠ G + 1; omega) _
  have hnr6 : NetR w6 n l (some ⟨gB, 0, none⟩) (some ⟨gO, 0, none⟩) := by rw [← hw6]; exact ⟨hnrc.b.far (p := ⟨G + 1, 2, none⟩) (by show gB ≠ G + 1; omega) _, hnrc.o.far (p := ⟨G + 1, 2, none⟩) (by show gO ≠ G + 1; omega) _⟩
  have hb6 : Below w.heap.size w w6 := by rw [← hw6]; exact hbc.setCell (p := ⟨G + 1, 2, none⟩) (by show w.heap.size ≤ G + 1; omega) _
  have hT6 := HT.out.below hb6
  have hpo : PickOk n (attQ l) (pickS n (attQ l) s) (fun a => s.testBit a = true) := fun x a hal hPa hxa => by
    have hf := foeS_iff.2 ⟨a, hal, hPa, hxa⟩
    have hx := (att_lt Hv.out.1 (attQ_iff.1 hxa)).1
    have := pick_ok ha hx hf
    exact ⟨hx, this.1, this.2.1⟩
  have hans := gAnswers_any Hv.out.1 (some ⟨gB, 0, none⟩) (some ⟨gO, 0, none⟩) root hroot 79 (.pointer (some ⟨G, 0, none⟩)) (.pointer (some ⟨q, 0, none⟩)) (pickS n (attQ l) s) (fun a => s.testBit a = true) hsr hpo (fun x W => enters_of Tryd.func79 (by kernel_rfl) rfl _ _) w6 hT6 hnr6
    (fun x a hal hPa hxa W hbW => gSolve1_any Hv.out.1 gB gO G q s x hslt ha (att_lt Hv.out.1 (attQ_iff.1 hxa)).1 (foeS_iff.2 ⟨a, hal, hPa, hxa⟩) W (hT6.below hbW) (hnr6.below hbW) (k96.below hbW k96.lt) (kq6.below hbW kq6.lt))
  have Hans := Lib.hid hans
  have z2 := k10.frozen 2
  have y2 : wc.cell? ⟨G + 1, 2, none⟩ = some (.int .i64 2) := k10.cell 2
  have v0 : w6.cell? ⟨G, 0, none⟩ = some (.int .u64 ((allN n : Nat) : Int)) := k96.cell 0
  have v1 : w6.cell? ⟨G, 1, none⟩ = some (.slice (some ⟨gB, 0, none⟩) n n) := k96.cell 1
  have v2 : w6.cell? ⟨G, 2, none⟩ = some (.slice (some ⟨gO, 0, none⟩) n n) := k96.cell 2
  clear hans hpo hnr6 hnrc k9 k10 k5 kq ha hslt hsr Hsnd hTc hbc kq6
  go_wp2_with fail
  clear v0 v1 v2 y2 z2 hw6 hT6
  refine Hans.out.mono ?_
  rintro e w7 ⟨R, OO, A', c', rfl, hok, hOl, hrp, hap, hb7⟩
  have k7 := k106.below hb7 k106.lt
  have Hloc : RowKit.Hid (∀ b o, A' = some ⟨b, o, none⟩ → w.heap.size ≤ b) := Lib.hid fun b o e => by have := (hap b o e).1; have := hb6.size; omega
  have k57 := k56.below hb7 k56.lt
  have hb07 := endB hb6 hb7
  have x3 : w7.cell? ⟨G + 1, 3, none⟩ = some (.slice none 0 0) := k7.cell 3
  have p3 := k7.frozen 3
  have hapG : ∀ b o, A' = some ⟨b, o, none⟩ → b ≠ G + 1 ∧ b ≠ w.heap.size + 1 := fun b o e => by have := (hap b o e).1; have := k106.lt; omega
  obtain ⟨w8, hw8⟩ : ∃ w8, w7.setCell ⟨G + 1, 3, none⟩ (.slice A' OO.length c') = w8 := ⟨_, rfl⟩
  have k8 : Blk w8 (G + 1) 64 #[.int .i64 2, .int .i64 (root : Int), .int .i64 1, .slice A' OO.length c'] := by rw [← hw8]; exact k7.set_ 3 _
  have k58 : Blk w8 (w.heap.size + 1) 64 #[.int .i64 0, .int .i64 0, .int .i64 0, .slice none 0 0] := by rw [← hw8]; exact k57.far (p := ⟨G + 1, 3, none⟩) (by show w.heap.size + 1 ≠ G + 1; omega) _
  have hb8 : Below w.heap.size w w8 := by rw [← hw8]; exact hb07.setCell (p := ⟨G + 1, 3, none⟩) (by show w.heap.size ≤ G + 1; omega) _
  have hr8 : RP w8 A' (OO.map toI) := fun j hj => by
    obtain ⟨b, o, e, h1, h2⟩ := hrp j hj
    have hne := (hapG b o e).1
    refine ⟨b, o, e, ?_, ?_⟩
    · rw [← hw8]; exact (World.cell?_setCell_far _ _ _ _ (Ne.symm hne)).trans h1
    · rw [← hw8]; exact (World.cell?_setCell_far _ _ _ _ (Ne.symm hne)).trans h2
  have a0 : w8.cell? ⟨G + 1, 0, none⟩ = some (.int .i64 2) := k8.cell 0
  have a1 : w8.cell? ⟨G + 1, 1, none⟩ = some (.int .i64 (root : Int)) := k8.cell 1
  have a2 : w8.cell? ⟨G + 1, 2, none⟩ = some (.int .i64 1) := k8.cell 2
  have a3 : w8.cell? ⟨G + 1, 3, none⟩ = some (.slice A' OO.length c') := k8.cell 3
  have z0 := k58.frozen 0; have z1 := k58.frozen 1; have z2 := k58.frozen 2; have z3 := k58.frozen 3
  have y0 : w8.cell? ⟨w.heap.size + 1, 0, none⟩ = some (.int .i64 0) := k58.cell 0
  have y1 : w8.cell? ⟨w.heap.size + 1, 1, none⟩ = some (.int .i64 0) := k58.cell 1
  have y2 : w8.cell? ⟨w.heap.size + 1, 2, none⟩ = some (.int .i64 0) := k58.cell 2
  have y3 : w8.cell? ⟨w.heap.size + 1, 3, none⟩ = some (.slice none 0 0) := k58.cell 3
  have k6 := (((k58.set_ 0 (.int .i64 2)).set_ 1 (.int .i64 (root : Int))).set_ 2 (.int .i64 1)).set_ 3 (.slice A' OO.length c')
  have u0 := k6.cell 0; have u1 := k6.cell 1; have u2 := k6.cell 2; have u3 := k6.cell 3
  simp at u0 u1 u2 u3
  have Hok := Lib.hid hok; have Hr8 := Lib.hid hr8; have Hb8 := Lib.hid hb8; have HapG := Lib.hid hapG
  clear k6 k58 k8 k57 k7 k56 k106 hok hr8 hrp hap hb7 hb07 hb8 Hans hapG k96 hb6
  go_wp2_with fail
  refine bodyPost_ret (v := .tuple #[.agg #[.int .i64 2, .int .i64 (root : Int), .int .i64 1, .slice A' OO.length c'], .int .i64 0]) (by simp [results, Tryd.results35, go_sem, u0, u1, u2, u3]) rfl ?_
  refine ⟨(((Hb8.out.setCell (p := ⟨w.heap.size + 1, 0, none⟩) (Nat.le_succ _) _).setCell (p := ⟨w.heap.size + 1, 1, none⟩) (Nat.le_succ _) _).setCell (p := ⟨w.heap.size + 1, 2, none⟩) (Nat.le_succ _) _).setCell (p := ⟨w.heap.size + 1, 3, none⟩) (Nat.le_succ _) _, R, OO, A', c', rfl, Hok.out, hOl, fun j hj => ?_, Hloc.out⟩
  obtain ⟨b, o, e, h1, h2⟩ := Hr8.out j hj
  have hne : w.heap.size + 1 ≠ b := Ne.symm (HapG.out b o e).2
  refine ⟨b, o, e, ?_, ?_⟩
  · rw [World.cell?_setCell_far _ _ _ _ (by exact hne), World.cell?_setCell_far _ _ _ _ (by exact hne), World.cell?_setCell_far _ _ _ _ (by exact hne), World.cell?_setCell_far _ _ _ _ (by exact hne)]; exact h1
  · rw [World.cell?_setCell_far _ _ _ _ (by exact hne), World.cell?_setCell_far _ _ _ _ (by exact hne), World.cell?_setCell_far _ _ _ _ (by exact hne), World.cell?_setCell_far _ _ _ _ (by exact hne)]; exact h2
end Go.Proofs.YtncimnfhfomddaaDoor
