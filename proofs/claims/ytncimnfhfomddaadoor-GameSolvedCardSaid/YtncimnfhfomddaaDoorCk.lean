import Derived.Test.YtncimnfhfomddaaDoorGam
import Derived.Test.YtncimnfhfomddaaDoorGd
/- Package game: the reply of a strategy to a node. -/
namespace Go.Proofs.YtncimnfhfomddaaDoor
open Go.ChangeShapes Go.WideShapes Go.ChangeAt Go.RowKit

theorem RP.farG {w : World} {A : Option Addr} {l : List (Int × Int)} {g : Nat} (h : RP w A l) (hA : ∀ b o, A = some ⟨b, o, none⟩ → b ≠ g) (i : Nat) (v : Value) : RP (w.setCell ⟨g, i, none⟩ v) A l := fun j hj => by
  obtain ⟨b, o, e, h1, h2⟩ := h j hj
  have hne : g ≠ b := Ne.symm (hA b o e)
  exact ⟨b, o, e, (World.cell?_setCell_far _ _ _ _ hne).trans h1, (World.cell?_setCell_far _ _ _ _ hne).trans h2⟩
theorem RP.farG0 {w : World} {A : Option Addr} {OO : List (Nat × Nat)} {g : Nat} (h : RP w A (OO.map toI)) (hA : OO ≠ [] → ∀ b o, A = some ⟨b, o, none⟩ → b ≠ g) (i : Nat) (v : Value) : RP (w.setCell ⟨g, i, none⟩ v) A (OO.map toI) := by
  cases OO with
  | nil => intro k hk; cases hk
  | cons q OO => exact h.farG (hA (by simp)) i v
theorem RP.lt_new {w : World} {A : Option Addr} {OO : List (Nat × Nat)} (h : RP w A (OO.map toI)) (hne : OO ≠ []) (b o : Nat) (e : A = some ⟨b, o, none⟩) : b < w.heap.size := by
  cases OO with
  | nil => exact absurd rfl hne
  | cons q OO =>
    obtain ⟨b', o', e', h1, -⟩ := h 0 (by simp)
    rw [e] at e'; injection e' with e'; injection e' with e' _ _
    rw [e']; exact lt_of_cell h1
/-- the reply to a node -/
def rpF (OO : List (Nat × Nat)) (x : Nat) : Option Nat := (OO.find? fun p => p.1 == x).map (·.2)
def AscR (OO : List (Nat × Nat)) : Prop := OO.Pairwise fun p q => p.1 < q.1
theorem rpF_some {OO : List (Nat × Nat)} {x y : Nat} (h : rpF OO x = some y) : (x, y) ∈ OO := by
  unfold rpF at h
  cases e : OO.find? (fun p => p.1 == x) with
  | none => rw [e] at h; cases h
  | some p =>
    rw [e] at h
    have h1 := List.mem_of_find?_eq_some e
    have h2 := List.find?_some e
    have h3 : p.1 = x := by simpa using h2
    have h4 : p.2 = y := by simpa using h
    rw [← h3, ← h4]; exact h1
theorem rpF_mem {OO : List (Nat × Nat)} (hs : AscR OO) {x y : Nat} (h : (x, y) ∈ OO) : rpF OO x = some y := by
  unfold rpF
  cases e : OO.find? (fun p => p.1 == x) with
  | none => have := List.find?_eq_none.1 e _ h; simp at this
  | some p =>
    have h1 := List.mem_of_find?_eq_some e
    have h2 : p.1 = x := by simpa using List.find?_some e
    have : p = (x, y) := by
      obtain ⟨i, hi, ei⟩ := List.getElem_of_mem h1
      obtain ⟨j, hj, ej⟩ := List.getElem_of_mem h
      have hq := List.pairwise_iff_getElem.1 hs
      rcases Nat.lt_trichotomy i j with hij | hij | hij
      · have := hq i j hi hj hij
        rw [ei, ej] at this
        simp only at this; omega
      · subst hij
        rw [← ei, ej]
      · have := hq j i hj hi hij
        rw [ei, ej] at this
        simp only at this; omega
    rw [this]; rfl
theorem rpF_none {OO : List (Nat × Nat)} {x : Nat} (h : ∀ p ∈ OO, p.1 ≠ x) : rpF OO x = none := by
  cases e : rpF OO x with
  | none => rfl
  | some y => exact absurd rfl (h _ (rpF_some e))
set_option maxHeartbeats 1000000 in
theorem reply1_any (a b x : Nat) (w : World) (ha : a < 64) (hx : x < 64) :
    Calls Tryd.prog 127 #[.agg #[.int .i64 (a : Int), .int .i64 (b : Int)], .int .i64 (x : Int)] w (RetB (.int .i64 ((a : Int) - (x : Int))) w) := by
  have e1 : wrap64 ((a : Int) - (x : Int)) = (a : Int) - (x : Int) := by unfold wrap64; omega
  go_enter Tryd.func127, Tryd.ntmps127
  go_upto_region 1 with fail
  obtain ⟨W0, hW, c0, c1, hb0, hlt0⟩ := boxed w 106 (.int .i64 (a : Int)) (.int .i64 (b : Int))
  rw [hW]
  clear hW
  go_wp2_with fail
  go_ret
  exact ⟨rfl, hb0⟩
/-- where a node belongs in the replies, and whether it is there -/
def RetBr (OO : List (Nat × Nat)) (x : Nat) (w : World) : Ending → World → Prop := fun e w' => ∃ (i : Nat) (b : Bool), e = .returned (.tuple #[.int .i64 (i : Int), .bool b]) ∧ (b = true → i < OO.length ∧ (OO.getD i (0, 0)).1 = x) ∧ (b = false → ∀ p ∈ OO, p.1 ≠ x) ∧ Below w.heap.size w w'
theorem asc_take {OO : List (Nat × Nat)} (hs : AscR OO) {h : Nat} (hh : h < OO.length) {x : Nat} (hp : OO[h].1 < x) : ∀ q ∈ OO.take (h + 1), q.1 < x := fun q hq => by
  rw [List.take_succ_eq_append_getElem hh, List.mem_append, List.mem_singleton] at hq
  rcases hq with hq | rfl
  · have e : OO = OO.take h ++ OO.drop h := (List.take_append_drop h OO).symm
    unfold AscR at hs
    rw [e, List.pairwise_append] at hs
    have := hs.2.2 q hq OO[h] (by rw [List.drop_eq_getElem_cons hh]; exact List.mem_cons_self ..)
    omega
  · exact hp
theorem asc_drop {OO : List (Nat × Nat)} (hs : AscR OO) {h : Nat} (hh : h < OO.length) {x : Nat} (hp : ¬ OO[h].1 < x) : ∀ q ∈ OO.drop h, ¬ q.1 < x := fun q hq => by
  rw [List.drop_eq_getElem_cons hh, List.mem_cons] at hq
  rcases hq with rfl | hq
  · exact hp
  · have e : OO = OO.take h ++ OO.drop h := (List.take_append_drop h OO).symm
    unfold AscR at hs
    rw [e, List.pairwise_append, List.drop_eq_getElem_cons hh, List.pairwise_cons] at hs
    have := hs.2.1.1 q hq
    omega
theorem asc_gt {OO : List (Nat × Nat)} (hs : AscR OO) {h : Nat} (hh : h < OO.length) : ∀ q ∈ OO.drop (h + 1), OO[h].1 < q.1 := fun q hq => by
  have e : OO = OO.take h ++ OO.drop h := (List.take_append_drop h OO).symm
  unfold AscR at hs
  rw [e, List.pairwise_append, List.drop_eq_getElem_cons hh, List.pairwise_cons] at hs
  exact hs.2.1.1 q hq
theorem toI_at {OO : List (Nat × Nat)} {w : World} {A : Option Addr} (h : RP w A (OO.map toI)) {k : Nat} (hk : k < OO.length) : ∃ b o, A = some ⟨b, o, none⟩ ∧ w.cell? ⟨b, o + k * 2, none⟩ = some (.int .i64 (OO[k].1 : Int)) ∧ w.cell? ⟨b, o + k * 2 + 1, none⟩ = some (.int .i64 (OO[k].2 : Int)) := by
  obtain ⟨b, o, e, h1, h2⟩ := h.at_ (k := k) (by rw [List.length_map]; exact hk)
  rw [List.getElem_map] at h1 h2
  exact ⟨b, o, e, h1, h2⟩
set_option maxRecDepth 100000 in
set_option maxHeartbeats 2000000 in
theorem bsearchR_any (A : Option Addr) (OO : List (Nat × Nat)) (c x : Nat) (w : World) (hr : RP w A (OO.map toI)) (hl : OO.length ≤ 100000) (hs : AscR OO) (hb : ∀ p ∈ OO, p.1 < 64) (hx : x < 64) :
    Calls Tryd.prog 126 #[.slice A OO.length c, .int .i64 (x : Int), .func (.func 127) #[] #[]] w (RetBr OO x w) := by
  have Hs := Lib.hid hs; have Hb := Lib.hid hb
  clear hs hb
  go_enter Tryd.func126, Tryd.ntmps126
  go_wp2_with fail
  go_loopw [9, 10] (fun i j wr => ∃ a b : Nat, a ≤ b ∧ b ≤ OO.length ∧ i = .int .i64 (a : Int) ∧ j = .int .i64 (b : Int) ∧ (∀ q ∈ OO.take a, q.1 < x) ∧ (∀ q ∈ OO.drop b, ¬ q.1 < x) ∧ Below w.heap.size w wr) (fun i j _ => (intOf j).toNat - (intOf i).toNat)
  case atStart => exact ⟨0, OO.length, Nat.zero_le _, Nat.le_refl _, rfl, rfl, by simp, by simp, Below.refl _ _⟩
  case round =>
    obtain ⟨a, b, hab, hbl, rfl, rfl, h1, h2, hbw⟩ := hrel
    have H1 := Lib.hid h1; have H2 := Lib.hid h2
    clear h1 h2
    by_cases hlt : a < b
    case neg =>
      have hab' : a = b := by omega
      subst hab'
      have hlt' : ¬ (a : Int) < (a : Int) := by omega
      clear hlt
      by_cases han : a < OO.length
      · have hn' : (a : Int) < (OO.length : Int) := by omega
        have ha0 : (0 : Int) ≤ (a : Int) := by omega
        obtain ⟨b', o, rfl, hc0, hc1⟩ := toI_at (hr.below hbw) han
        have hbd := Hb.out OO[a] (List.getElem_mem han)
        have hpk : OO.getD a (0, 0) = OO[a] := by rw [List.getD_eq_getElem?_getD, List.getElem?_eq_getElem han]; rfl
        have hgt := asc_gt Hs.out han
        have hmd : OO[a] ∈ OO.drop a := by rw [List.drop_eq_getElem_cons han]; exact List.mem_cons_self ..
        have hsplit : ∀ p ∈ OO, p ∈ OO.take a ∨ p = OO[a] ∨ p ∈ OO.drop (a + 1) := fun p hp => by
          have e : OO = OO.take a ++ OO.drop a := (List.take_append_drop a OO).symm
          rw [e, List.mem_append, List.drop_eq_getElem_cons han, List.mem_cons] at hp
          exact hp
        generalize OO[a] = pr at *
        obtain ⟨pf, ps⟩ := pr
        simp only at hc0 hc1 hbd hgt
        have hcmp := fun w1 => reply1_any pf ps x w1 hbd hx
        obtain ⟨r, hrr⟩ : ∃ r, (pf : Int) - (x : Int) = r := ⟨_, rfl⟩
        rw [hrr] at hcmp
        have Hq : Hid ((r == 0) = true → (OO.getD a (0, 0)).1 = x) := Lib.hid (by rw [hpk, beq_iff_eq]; simp only; omega)
        have Hq2 : Hid ((r == 0) = false → ∀ p ∈ OO, p.1 ≠ x) := Lib.hid (by
          intro e p hp
          rw [beq_eq_false_iff_ne] at e
          rcases hsplit p hp with h | h | h
          · have := H1.out p h; omega
          · rw [h]; simp only; omega
          · have h1 := hgt p h
            have h2 : ¬ pf < x := H2.out (pf, ps) hmd
            omega)
        obtain ⟨q, hq⟩ : ∃ q, (r == 0) = q := ⟨_, rfl⟩
        rw [hq] at Hq Hq2
        clear hrr hpk hgt hsplit hmd
        go_wp2_with fail
        refine (hcmp wr).mono ?_
        rintro e w2 ⟨rfl, hb2⟩
        go_wp2_with fail
        go_ret2
        exact ⟨a, q, rfl, fun e => ⟨han, Hq.out e⟩, Hq2.out, endB hbw hb2⟩
      · have hn' : ¬ (a : Int) < (OO.length : Int) := by omega
        go_wp2_with fail
        go_ret2
        exact ⟨a, false, rfl, (fun e => by cases e), (fun _ p hp => by have := H1.out p (by rw [List.take_of_length_le (by omega)]; exact hp); omega), hbw⟩
    case pos =>
    have hlt' : (a : Int) < (b : Int) := by omega
    go_upto_region 5 with fail
    obtain ⟨h, hh⟩ : ∃ h : Nat, ((a : Int) + (b : Int)) / 2 = (h : Int) := ⟨(a + b) / 2, by omega⟩
    rw [hh]
    have hah : a ≤ h := by omega
    have hhb : h < b := by omega
    have hhn : h < OO.length := by omega
    have hn' : (h : Int) < (OO.length : Int) := by omega
    have ha0 : (0 : Int) ≤ (h : Int) := by omega
    clear hh
    have hT := fun hp => asc_take Hs.out hhn (x := x) hp
    have hD := fun hp => asc_drop Hs.out hhn (x := x) hp
    obtain ⟨b', o, rfl, hc0, hc1⟩ := toI_at (hr.below hbw) hhn
    have hbd := Hb.out OO[h] (List.getElem_mem hhn)
    generalize OO[h] = pr at *
    obtain ⟨pf, ps⟩ := pr
    simp only at hc0 hc1 hbd hT hD
    have hcmp := fun w1 => reply1_any pf ps x w1 hbd hx
    obtain ⟨r, hrr⟩ : ∃ r, (pf : Int) - (x : Int) = r := ⟨_, rfl⟩
    rw [hrr] at hcmp
    have hneg : r < 0 ↔ pf < x := by omega
    have HT := Lib.hid hT; have HD := Lib.hid hD
    have Hneg := Lib.hid hneg
    clear hrr hneg hT hD
    by_cases hr1 : r < 0
    · have HT2 := Lib.hid (HT.out (Hneg.out.1 hr1))
      clear HT HD Hneg
      go_wp2_with fail
      refine (hcmp wr).mono ?_
      rintro e w2 ⟨rfl, hb2⟩
      go_wp2_with fail
      go_roundw
      case rel => exact ⟨h + 1, b, by omega, hbl, by go_num, rfl, HT2.out, H2.out, endB hbw hb2⟩
      case measure => simp [intOf]; omega
    · have HD2 := Lib.hid (HD.out (fun hp => hr1 (Hneg.out.2 hp)))
      clear HT HD Hneg
      go_wp2_with fail
      refine (hcmp wr).mono ?_
      rintro e w2 ⟨rfl, hb2⟩
      go_wp2_with fail
      go_roundw
      case rel => exact ⟨a, h, hah, by omega, rfl, by go_num, H1.out, HD2.out, endB hbw hb2⟩
      case measure => simp [intOf]; omega
/-- the strategy's reply -/
def replV (r : Option Nat) : Value := .tuple #[.int .i64 ((r.getD 0 : Nat) : Int), .bool r.isSome]
set_option maxRecDepth 100000 in
set_option maxHeartbeats 2000000 in
theorem reply_any (k root by_ : Int) (A : Option Addr) (OO : List (Nat × Nat)) (c x : Nat) (w : World) (hr : RP w A (OO.map toI)) (hl : OO.length ≤ 100000) (hs : AscR OO) (hb : ∀ p ∈ OO, p.1 < 64) (hx : x < 64) :
    Calls Tryd.prog 92 #[.agg #[.int .i64 k, .int .i64 root, .int .i64 by_, .slice A OO.length c], .int .i64 (x : Int)] w (RetB (replV (rpF OO x)) w) := by
  go_enter Tryd.func92, Tryd.ntmps92
  go_upto_region 1 with fail
  obtain ⟨W0, hW, kS, hb0, hs0⟩ : ∃ W0, w.alloc (.cells #[.int .i64 k, .int .i64 root, .int .i64 by_, .slice A OO.length c] 64) = W0 ∧ Blk W0 w.heap.size 64 #[.int .i64 k, .int .i64 root, .int .i64 by_, .slice A OO.length c] ∧ Below w.heap.size w W0 ∧ W0.heap.size = w.heap.size + 1 := ⟨_, rfl, Blk.new _ _ _, newB _ _, by simp⟩
  rw [hW]
  have c3 : W0.cell? ⟨w.heap.size, 3, none⟩ = some (.slice A OO.length c) := kS.cell 3
  have hr0 := hr.below hb0
  clear hW kS hr
  go_wp2_with fail
  refine (bsearchR_any A OO c x W0 hr0 hl hs hb hx).mono ?_
  rintro e w1 ⟨i, b, rfl, h1, h2, hb1⟩
  have c3 := (hb1.cell (lt_of_cell c3)).trans c3
  have hr1 := hr0.below hb1
  have hbb := endB hb0 hb1
  cases b
  · have He := Lib.hid (rpF_none (h2 rfl))
    clear h1 h2 hr1 hr0 hb1
    go_wp2_with fail
    go_ret2
    exact ⟨by rw [He.out]; rfl, hbb⟩
  · obtain ⟨hi, he⟩ := h1 rfl
    have hg : OO.getD i (0, 0) = OO[i] := by rw [List.getD_eq_getElem?_getD, List.getElem?_eq_getElem hi]; rfl
    rw [hg] at he
    have hmem : OO[i] ∈ OO := List.getElem_mem _
    obtain ⟨b', o, rfl, hc0, hc1⟩ := toI_at hr1 hi
    have hf : rpF OO x = some OO[i].2 := rpF_mem hs (by rw [← he]; exact hmem)
    generalize OO[i].2 = y at hc1 hf
    have He := Lib.hid hf
    have hi0 : (0 : Int) ≤ (i : Int) := by omega
    have hi1 : (i : Int) < (OO.length : Int) := by omega
    clear h1 h2 hr1 hr0 hb1 hf he hg hmem hc0
    go_wp2_with fail
    go_ret2
    exact ⟨by rw [He.out]; rfl, hbb⟩
end Go.Proofs.YtncimnfhfomddaaDoor

/- The check of a strategy in plain words: the search through the replies. -/
namespace Go.Proofs.YtncimnfhfomddaaDoor

def updN2 (f : Nat → Nat) (i x : Nat) : Nat → Nat := fun j => if j = i then x else f j
theorem updN2_same (f : Nat → Nat) (i x : Nat) : updN2 f i x i = x := if_pos rfl
theorem updN2_ne {f : Nat → Nat} {i j x : Nat} (h : j ≠ i) : updN2 f i x j = f j := if_neg h
def zerN (n : Nat) (st : Nat → Nat) : Nat := (List.range n).countP fun v => st v == 0
theorem countP_le_of {α : Type} {p q : α → Bool} : ∀ {l : List α}, (∀ a ∈ l, p a = true → q a = true) → l.countP p ≤ l.countP q
  | [], _ => Nat.le_refl _
  | a :: l, h => by
    have ih := countP_le_of (l := l) fun b hb => h b (List.mem_cons_of_mem _ hb)
    rw [List.countP_cons, List.countP_cons]
    cases e : p a
    · simp; omega
    · rw [h a (List.mem_cons_self ..) e]; simp; omega
theorem zer_le {n : Nat} {st st' : Nat → Nat} (h : ∀ v, st v ≠ 0 → st' v = st v) : zerN n st' ≤ zerN n st := countP_le_of fun v _ hv => by
  rw [beq_iff_eq] at hv ⊢
  refine Classical.byContradiction fun hne => ?_
  have := h v hne; omega
theorem countP_lt_of {α : Type} {p q : α → Bool} : ∀ {l : List α}, (∀ a ∈ l, p a = true → q a = true) → (∃ a ∈ l, p a = false ∧ q a = true) → l.countP p < l.countP q
  | [], _, ⟨a, h, _⟩ => by cases h
  | a :: l, h, hx => by
    have hl : ∀ b ∈ l, p b = true → q b = true := fun b hb => h b (List.mem_cons_of_mem _ hb)
    have ih := countP_le_of hl
    rw [List.countP_cons, List.countP_cons]
    obtain ⟨b, hb, h1, h2⟩ := hx
    rcases List.mem_cons.1 hb with rfl | hb
    · rw [h1, h2]; simp; omega
    · have := countP_lt_of hl ⟨b, hb, h1, h2⟩
      cases e : p a
      · simp; omega
      · rw [h a (List.mem_cons_self ..) e]; simp; omega
theorem zer_lt {n node x : Nat} {st : Nat → Nat} (hn : node < n) (h0 : st node = 0) (hx : x ≠ 0) : zerN n (updN2 st node x) < zerN n st :=
  countP_lt_of (fun v _ hv => by
    rw [beq_iff_eq] at hv ⊢
    by_cases e : v = node
    · rw [e]; exact h0
    · rw [updN2_ne e] at hv; exact hv) ⟨node, List.mem_range.2 hn, by rw [updN2_same]; simpa using hx, by rw [h0]; rfl⟩
section
variable {n k : Nat} {at_ : Nat → Nat → Bool} {OO : List (Nat × Nat)}
/-- the reply y to x is there, attacks it, and lies among what has been visited; in the grounded game it is done -/
def RpQ (n k : Nat) (at_ : Nat → Nat → Bool) (OO : List (Nat × Nat)) (st : Nat → Nat) (x : Nat) : Prop := ∃ y, rpF OO x = some y ∧ y < n ∧ at_ y x = true ∧ st y ≠ 0 ∧ (k = 1 → st y = 2)
/-- what holds of all that is done -/
def VInv (n k : Nat) (at_ : Nat → Nat → Bool) (OO : List (Nat × Nat)) (st : Nat → Nat) : Prop := ∃ rk : Nat → Nat, ∀ v, st v = 2 → v < n ∧ ∀ x, at_ x v = true → ∃ y, rpF OO x = some y ∧ y < n ∧ at_ y x = true ∧ st y ≠ 0 ∧ (k = 1 → st y = 2 ∧ rk y < rk v)
/-- where the search cannot fail -/
def VGood (n k : Nat) (at_ : Nat → Nat → Bool) (OO : List (Nat × Nat)) (st : Nat → Nat) (node : Nat) : Prop := ∃ (R : Nat → Prop) (rk : Nat → Nat), R node ∧ (∀ v, R v → ∀ x, at_ x v = true → ∃ y, rpF OO x = some y ∧ y < n ∧ at_ y x = true ∧ R y ∧ (k = 1 → rk y < rk v)) ∧ (k = 1 → ∀ u, st u = 1 → rk node < rk u)
/-- a set that the replies do not leave -/
def RCl (at_ : Nat → Nat → Bool) (OO : List (Nat × Nat)) (R : Nat → Prop) : Prop := ∀ v, R v → ∀ x, at_ x v = true → ∀ y, rpF OO x = some y → R y
structure VPost (n k : Nat) (at_ : Nat → Nat → Bool) (OO : List (Nat × Nat)) (node : Nat) (st st' : Nat → Nat) (b : Bool) : Prop where
  keep : ∀ v, st v ≠ 0 → st' v = st v
  grow : b = true → ∀ v, st v = 0 → st' v = 0 ∨ st' v = 2
  nd2 : b = true → st' node = 2
  inv : b = true → VInv n k at_ OO st → VInv n k at_ OO st'
  good : VGood n k at_ OO st node → b = true
  sub : b = true → ∀ R : Nat → Prop, RCl at_ OO R → R node → ∀ v, st' v ≠ 0 → st v ≠ 0 ∨ R v
/-- in the loop over the attackers of a node -/
structure VLoop (n k : Nat) (at_ : Nat → Nat → Bool) (OO : List (Nat × Nat)) (node : Nat) (st cur : Nat → Nat) (xs : List Nat) : Prop where
  keep : ∀ v, st v ≠ 0 → cur v = st v
  me : cur node = 1
  grow : ∀ v, st v = 0 → v ≠ node → cur v = 0 ∨ cur v = 2
  inv : VInv n k at_ OO st → VInv n k at_ OO cur
  done : ∀ x ∈ xs, RpQ n k at_ OO cur x
  sub : ∀ R : Nat → Prop, RCl at_ OO R → R node → ∀ v, cur v ≠ 0 → st v ≠ 0 ∨ R v
theorem VLoop.start {node : Nat} {st : Nat → Nat} (h0 : st node = 0) : VLoop n k at_ OO node st (updN2 st node 1) [] where
  keep := fun v hv => updN2_ne (fun e => hv (by rw [e]; exact h0))
  me := updN2_same ..
  grow := fun v hv hne => .inl (by rw [updN2_ne hne]; exact hv)
  inv := fun ⟨rk, h⟩ => ⟨rk, fun v hv => by
    have hne : v ≠ node := fun e => by rw [e, updN2_same] at hv; cases hv
    rw [updN2_ne hne] at hv
    refine ⟨(h v hv).1, fun x hx => ?_⟩
    obtain ⟨y, h1, h2, h3, h4, h5⟩ := (h v hv).2 x hx
    have hyn : y ≠ node := fun e => h4 (by rw [e]; exact h0)
    exact ⟨y, h1, h2, h3, by rw [updN2_ne hyn]; exact h4, fun hk => ⟨by rw [updN2_ne hyn]; exact (h5 hk).1, (h5 hk).2⟩⟩⟩
  done := fun x hx => by cases hx
  sub := fun R _ hR v hv => by
    by_cases e : v = node
    · exact .inr (by rw [e]; exact hR)
    · rw [updN2_ne e] at hv; exact .inl hv
theorem RpQ.keep {st cur : Nat → Nat} {x : Nat} (h : RpQ n k at_ OO st x) (hk : ∀ v, st v ≠ 0 → cur v = st v) : RpQ n k at_ OO cur x := by
  obtain ⟨y, h1, h2, h3, h4, h5⟩ := h
  exact ⟨y, h1, h2, h3, by rw [hk y h4]; exact h4, fun e => by rw [hk y h4]; exact h5 e⟩
/-- a reply to a node that is visited -/
theorem VLoop.old {node x y : Nat} {st cur : Nat → Nat} {xs : List Nat} (h : VLoop n k at_ OO node st cur xs) (h1 : rpF OO x = some y) (h2 : y < n) (h3 : at_ y x = true) (h4 : cur y ≠ 0) (h5 : k = 1 → cur y ≠ 1) (hst : ∀ v, st v ≤ 2) : VLoop n k at_ OO node st cur (xs ++ [x]) :=
  ⟨h.keep, h.me, h.grow, h.inv, fun z hz => by
    rw [List.mem_append, List.mem_singleton] at hz
    rcases hz with hz | rfl
    · exact h.done z hz
    · refine ⟨y, h1, h2, h3, h4, fun e => ?_⟩
      have h6 := h5 e
      by_cases e0 : st y = 0
      · by_cases en : y = node
        · rw [en, h.me] at h6; exact absurd rfl h6
        · rcases h.grow y e0 en with e1 | e1
          · exact absurd e1 h4
          · exact e1
      · have hk := h.keep y e0
        have h7 := hst y
        rw [hk] at h4 h6 ⊢
        omega, h.sub⟩
/-- a reply to a node that is searched -/
theorem VLoop.new {node x y : Nat} {st cur cur' : Nat → Nat} {xs : List Nat} (h : VLoop n k at_ OO node st cur xs) (h1 : rpF OO x = some y) (h2 : y < n) (h3 : at_ y x = true) (hxn : at_ x node = true) (hp : VPost n k at_ OO y cur cur' true) : VLoop n k at_ OO node st cur' (xs ++ [x]) where
  keep := fun v hv => by rw [hp.keep v (by rw [h.keep v hv]; exact hv)]; exact h.keep v hv
  me := by rw [hp.keep node (by rw [h.me]; decide)]; exact h.me
  grow := fun v hv hne => by
    rcases h.grow v hv hne with e | e
    · exact hp.grow rfl v e
    · right; rw [hp.keep v (by omega)]; exact e
  inv := fun hi => hp.inv rfl (h.inv hi)
  done := fun z hz => by
    rw [List.mem_append, List.mem_singleton] at hz
    rcases hz with hz | rfl
    · exact (h.done z hz).keep hp.keep
    · exact ⟨y, h1, h2, h3, by rw [hp.nd2 rfl]; decide, fun _ => hp.nd2 rfl⟩
  sub := fun R hc hR v hv => by
    rcases hp.sub rfl R hc (hc node hR x hxn y h1) v hv with e | e
    · exact h.sub R hc hR v e
    · exact .inr e
theorem VLoop.fin {node : Nat} {st cur : Nat → Nat} {xs : List Nat} (h : VLoop n k at_ OO node st cur xs) (hn : node < n) (h0 : st node = 0) (hx : ∀ x, at_ x node = true → x ∈ xs) : VPost n k at_ OO node st (updN2 cur node 2) true where
  keep := fun v hv => by
    have hne : v ≠ node := fun e => hv (by rw [e]; exact h0)
    rw [updN2_ne hne]; exact h.keep v hv
  grow := fun _ v hv => by
    by_cases e : v = node
    · right; rw [e, updN2_same]
    · rw [updN2_ne e]; exact h.grow v hv e
  nd2 := fun _ => updN2_same ..
  inv := fun _ hi => by
    obtain ⟨rk, hrk⟩ := h.inv hi
    obtain ⟨M, hM⟩ : ∃ M, ∀ v, v < n → rk v < M := by
      have key : ∀ m, ∃ M, ∀ v, v < m → rk v < M := by
        intro m
        induction m with
        | zero => exact ⟨0, fun v hv => absurd hv (Nat.not_lt_zero v)⟩
        | succ m ih =>
          obtain ⟨M, hM⟩ := ih
          refine ⟨M + rk m + 1, fun v hv => ?_⟩
          by_cases e : v = m
          · subst e; omega
          · have := hM v (by omega); omega
      exact key n
    refine ⟨updN2 rk node M, fun v hv => ?_⟩
    by_cases e : v = node
    · subst e
      refine ⟨hn, fun x hxv => ?_⟩
      obtain ⟨y, h1, h2, h3, h4, h5⟩ := h.done x (hx x hxv)
      refine ⟨y, h1, h2, h3, ?_, fun hk => ?_⟩
      · by_cases ey : y = v
        · rw [ey, updN2_same]; decide
        · rw [updN2_ne ey]; exact h4
      · have hy2 := h5 hk
        have ey : y ≠ v := fun e => by rw [e, h.me] at hy2; cases hy2
        rw [updN2_ne ey, updN2_ne ey, updN2_same]
        exact ⟨hy2, hM y h2⟩
    · rw [updN2_ne e] at hv
      refine ⟨(hrk v hv).1, fun x hxv => ?_⟩
      obtain ⟨y, h1, h2, h3, h4, h5⟩ := (hrk v hv).2 x hxv
      refine ⟨y, h1, h2, h3, ?_, fun hk => ?_⟩
      · by_cases ey : y = node
        · rw [ey, updN2_same]; decide
        · rw [updN2_ne ey]; exact h4
      · have hy2 := (h5 hk).1
        have ey : y ≠ node := fun e => by rw [e, h.me] at hy2; cases hy2
        rw [updN2_ne ey, updN2_ne ey, updN2_ne e]
        exact ⟨hy2, (h5 hk).2⟩
  good := fun _ => rfl
  sub := fun _ R hc hR v hv => by
    by_cases e : v = node
    · exact .inr (by rw [e]; exact hR)
    · rw [updN2_ne e] at hv; exact h.sub R hc hR v hv
/-- what a search that cannot fail finds at an attacker -/
theorem VLoop.good {node x : Nat} {st cur : Nat → Nat} {xs : List Nat} (h : VLoop n k at_ OO node st cur xs) (hg : VGood n k at_ OO st node) (hx : at_ x node = true) : ∃ y, rpF OO x = some y ∧ at_ y x = true ∧ (k = 1 → cur y ≠ 1) ∧ VGood n k at_ OO cur y := by
  obtain ⟨R, rk, hR, hcl, hst⟩ := hg
  obtain ⟨y, h1, h2, h3, h4, h5⟩ := hcl node hR x hx
  have hone : ∀ u, cur u = 1 → u = node ∨ st u = 1 := fun u hu => by
    by_cases e : u = node
    · exact .inl e
    · by_cases e0 : st u = 0
      · rcases h.grow u e0 e with e1 | e1 <;> omega
      · exact .inr (by rw [← h.keep u e0]; exact hu)
  refine ⟨y, h1, h3, fun hk hy => ?_, R, rk, h4, hcl, fun hk u hu => ?_⟩
  · have := h5 hk
    rcases hone y hy with e | e
    · rw [e] at this; omega
    · have := hst hk y e; omega
  · have := h5 hk
    rcases hone u hu with e | e
    · rw [e]; exact this
    · have := hst hk u e; omega
end
end Go.Proofs.YtncimnfhfomddaaDoor

/- Package game: the checker's search through a proponent's replies. -/
namespace Go.Proofs.YtncimnfhfomddaaDoor
open Go.ChangeShapes Go.WideShapes Go.ChangeAt Go.RowKit

section
variable {n k : Nat} {at_ : Nat → Nat → Bool} {OO : List (Nat × Nat)}
theorem VLoop.bad {node : Nat} {st cur : Nat → Nat} {xs : List Nat} (h : VLoop n k at_ OO node st cur xs) (hg : ¬ VGood n k at_ OO st node) : VPost n k at_ OO node st cur false :=
  ⟨h.keep, (fun e => by cases e), (fun e => by cases e), (fun e => by cases e), fun g => absurd g hg, fun e => by cases e⟩
theorem VLoop.bad2 {node y : Nat} {st cur cur' : Nat → Nat} {xs : List Nat} (h : VLoop n k at_ OO node st cur xs) (hp : VPost n k at_ OO y cur cur' false) (hg : ¬ VGood n k at_ OO st node) : VPost n k at_ OO node st cur' false :=
  ⟨fun v hv => by rw [hp.keep v (by rw [h.keep v hv]; exact hv)]; exact h.keep v hv, (fun e => by cases e), (fun e => by cases e), (fun e => by cases e), fun g => absurd g hg, fun e => by cases e⟩
theorem replV_none : replV none = .tuple #[.int .i64 0, .bool false] := rfl
theorem replV_some (y : Nat) : replV (some y) = .tuple #[.int .i64 (y : Int), .bool true] := rfl
end
/-- two blocks may turn, all others stand -/
structure Mt (p g : Nat) (w w' : World) : Prop where
  os : w'.os = w.os
  tape : w'.tape = w.tape
  output : w'.output = w.output
  size : w.heap.size ≤ w'.heap.size
  block : ∀ k, k < w.heap.size → k ≠ p → k ≠ g → w'.heap[k]? = w.heap[k]?
namespace Mt
variable {p g : Nat} {a b c : World}
theorem refl (p g : Nat) (w : World) : Mt p g w w := ⟨rfl, rfl, rfl, Nat.le_refl _, fun _ _ _ _ => rfl⟩
theorem trans (h : Mt p g a b) (k : Mt p g b c) : Mt p g a c := ⟨k.os.trans h.os, k.tape.trans h.tape, k.output.trans h.output, Nat.le_trans h.size k.size, fun i hi h1 h2 => (k.block i (Nat.lt_of_lt_of_le hi h.size) h1 h2).trans (h.block i hi h1 h2)⟩
theorem of_below (h : Below a.heap.size a b) : Mt p g a b := ⟨h.os, h.tape, h.output, h.size, fun k hk _ _ => h.block k hk⟩
theorem set_ (h : Mt p g a b) {q : Addr} (hq : q.block = p ∨ q.block = g) (u : Value) : Mt p g a (b.setCell q u) :=
  ⟨h.os, h.tape, h.output, by simpa [World.setCell] using h.size, fun k hk h1 h2 => (Below.heap_setCell b q u k (by rcases hq with e | e <;> rw [e] <;> assumption)).trans (h.block k hk h1 h2)⟩
theorem drew (h : Mt p g a b) : Mt p g a b.drew := ⟨h.os, h.tape, h.output, h.size, h.block⟩
theorem cell (h : Mt p g a b) {x : Addr} {v : Value} (hc : a.cell? x = some v) (h1 : x.block ≠ p) (h2 : x.block ≠ g) : b.cell? x = some v :=
  (World.cell?_of_block (w := a) (h.block _ (lt_of_cell hc) h1 h2)).trans hc
theorem below (h : Mt p g a b) {B : Nat} (hp : B ≤ p) (hg : B ≤ g) (hB : B ≤ a.heap.size) : Below B a b := ⟨h.os, h.tape, h.output, h.size, fun k hk => h.block k (by omega) (by omega) (by omega)⟩
theorem ri (h : Mt p g a b) {A : Option Addr} {l : List Int} (hr : RI a A l) (hn : ∀ b o, A = some ⟨b, o, none⟩ → b ≠ p ∧ b ≠ g) : RI b A l := fun k hk => by
  obtain ⟨b', o, e, hc⟩ := hr k hk
  exact ⟨b', o, e, h.cell hc (hn b' o e).1 (hn b' o e).2⟩
end Mt
/-- the checker in memory -/
structure CkS (n : Nat) (l : List (Int × Int)) (gB gO k root by_ : Nat) (A : Option Addr) (OO : List (Nat × Nat)) (c p gS : Nat) (st : Nat → Nat) (rc : Nat) (w : World) : Prop where
  hd : Blk w p 122 #[.int .u64 ((allN n : Nat) : Int), .slice (some ⟨gB, 0, none⟩) n n, .slice (some ⟨gO, 0, none⟩) n n, .int .i64 (k : Int), .int .i64 (root : Int), .int .i64 (by_ : Int), .slice A OO.length c, .int .u64 (rc : Int), .slice (some ⟨gS, 0, none⟩) n n]
  row : w.rowIs gS 3 n (fun i => .int .i64 ((st i : Nat) : Int))
  nr : NetR w n l (some ⟨gB, 0, none⟩) (some ⟨gO, 0, none⟩)
  rp : RP w A (OO.map toI)
  tab : Tab w
  ne : gS ≠ p
  nb : (gB ≠ p ∧ gB ≠ gS) ∧ gO ≠ p ∧ gO ≠ gS
  na : OO ≠ [] → ∀ b o, A = some ⟨b, o, none⟩ → b ≠ p ∧ b ≠ gS
  nt : 0 ≠ p ∧ 0 ≠ gS
  rcs : ∀ v, rc.testBit v = decide (st v ≠ 0)
  rcl : rc < 2 ^ n
  le : ∀ v, st v ≤ 2
section
variable {n : Nat} {l : List (Int × Int)} {gB gO k root by_ : Nat} {A : Option Addr} {OO : List (Nat × Nat)} {c p gS : Nat} {st : Nat → Nat} {rc : Nat} {w w' : World}
theorem Tab.far {w : World} (h : Tab w) {a : Addr} (ha : 0 ≠ a.block) (v : Value) : Tab (w.setCell a v) := fun j hj => (World.cell?_setCell_far _ _ _ _ (Ne.symm ha)).trans (h j hj)
theorem CkS.below (h : CkS n l gB gO k root by_ A OO c p gS st rc w) (hb : Below w.heap.size w w') : CkS n l gB gO k root by_ A OO c p gS st rc w' :=
  { h with hd := h.hd.below hb h.hd.lt, row := rowIs_new h.row hb, nr := h.nr.below hb, rp := h.rp.below hb, tab := h.tab.below hb }
theorem CkS.enter (h : CkS n l gB gO k root by_ A OO c p gS st rc w) {i : Nat} (hi : i < n) :
    CkS n l gB gO k root by_ A OO c p gS (updN2 st i 1) (rc ||| 1 <<< i) ((w.setCell ⟨gS, i, none⟩ (.int .i64 1)).setCell ⟨p, 7, none⟩ (.int .u64 ((rc ||| 1 <<< i : Nat) : Int))) :=
  { hd := (h.hd.far (p := ⟨gS, i, none⟩) (Ne.symm h.ne) _).set_ 7 _
    row := World.rowIs.setOther ((World.rowIs.set h.row i (.int .i64 1)).congr fun j _ => by unfold updN2; split <;> rfl) h.ne _
    nr := ⟨(h.nr.b.far (p := ⟨gS, i, none⟩) h.nb.1.2 _).far (p := ⟨p, 7, none⟩) h.nb.1.1 _, (h.nr.o.far (p := ⟨gS, i, none⟩) h.nb.2.2 _).far (p := ⟨p, 7, none⟩) h.nb.2.1 _⟩
    rp := (h.rp.farG0 (fun hne b o e => (h.na hne b o e).2) i _).farG0 (fun hne b o e => (h.na hne b o e).1) 7 _
    tab := (h.tab.far (a := ⟨gS, i, none⟩) h.nt.2 _).far (a := ⟨p, 7, none⟩) h.nt.1 _
    ne := h.ne, nb := h.nb, na := h.na, nt := h.nt
    rcs := fun v => by
      rw [bit_with, h.rcs]
      by_cases e : v = i
      · rw [e, updN2_same]; simp
      · rw [updN2_ne e, decide_eq_false e, Bool.or_false]
    rcl := with_lt h.rcl hi
    le := fun v => by
      unfold updN2
      split
      · decide
      · exact h.le v }
theorem CkS.leave (h : CkS n l gB gO k root by_ A OO c p gS st rc w) {i : Nat} (h1 : st i = 1) :
    CkS n l gB gO k root by_ A OO c p gS (updN2 st i 2) rc (w.setCell ⟨gS, i, none⟩ (.int .i64 2)) :=
  { hd := h.hd.far (p := ⟨gS, i, none⟩) (Ne.symm h.ne) _
    row := (World.rowIs.set h.row i (.int .i64 2)).congr fun j _ => by unfold updN2; split <;> rfl
    nr := ⟨h.nr.b.far (p := ⟨gS, i, none⟩) h.nb.1.2 _, h.nr.o.far (p := ⟨gS, i, none⟩) h.nb.2.2 _⟩
    rp := h.rp.farG0 (fun hne b o e => (h.na hne b o e).2) i _
    tab := h.tab.far (a := ⟨gS, i, none⟩) h.nt.2 _
    ne := h.ne, nb := h.nb, na := h.na, nt := h.nt
    rcs := fun v => by
      rw [h.rcs]
      by_cases e : v = i
      · rw [e, updN2_same, h1]; rfl
      · rw [updN2_ne e]
    rcl := h.rcl
    le := fun v => by
      unfold updN2
      split
      · decide
      · exact h.le v }
end
/-- what a visit leaves -/
def RetVi (n : Nat) (l : List (Int × Int)) (gB gO k root by_ : Nat) (A : Option Addr) (OO : List (Nat × Nat)) (c p gS node : Nat) (st : Nat → Nat) (w : World) : Ending → World → Prop := fun e w' => ∃ (b : Bool) (st' : Nat → Nat) (rc' : Nat), e = .returned (.bool b) ∧ CkS n l gB gO k root by_ A OO c p gS st' rc' w' ∧ VPost n k (attQ l) OO node st st' b ∧ Mt p gS w w'

set_option maxRecDepth 100000 in
set_option maxHeartbeats 16000000 in
theorem visitR_any {n : Nat} {l : List (Int × Int)} (hv : InR n l) (gB gO k root by_ : Nat) (A : Option Addr) (OO : List (Nat × Nat)) (c p gS : Nat) (ho : ∀ q ∈ OO, q.1 < n ∧ q.2 < n) (hasc : AscR OO) (hlo : OO.length ≤ 100000) : ∀ (m node : Nat) (st : Nat → Nat) (rc : Nat) (w : World), zerN n st ≤ m → node < n → st node = 0 → CkS n l gB gO k root by_ A OO c p gS st rc w →
    Calls Tryd.prog 121 #[.pointer (some ⟨p, 0, none⟩), .int .i64 (node : Int)] w (RetVi n l gB gO k root by_ A OO c p gS node st w) := by
  intro m
  induction m using Nat.strongRecOn
  rename_i m ih
  intro node st rc w hm hnode h0 hck
  have hn := hv.1
  have hrcu := u64_of hn hck.rcl
  have hn0 : (0 : Int) ≤ (node : Int) := by omega
  have hn1 : (node : Int) < (n : Int) := by omega
  have hwith := netWith_any rc node hrcu (by omega)
  have hpl := hck.hd.lt
  have hgl := World.rowIs.lt hck.row
  have hne := hck.ne
  have qS := World.rowIs.cell hck.row hnode
  have qF := World.rowIs.frozen hck.row node
  have zF := hck.hd.frozen 7
  have Hck := Lib.hid hck; have Hwith := Lib.hid hwith
  clear hck hwith hrcu
  go_enter Tryd.func121, Tryd.ntmps121
  go_wp2_with fail
  refine wp_region_textZ [11, 13, 16] (fun w' => Blk w' p 122 #[.int .u64 ((allN n : Nat) : Int), .slice (some ⟨gB, 0, none⟩) n n, .slice (some ⟨gO, 0, none⟩) n n, .int .i64 (k : Int), .int .i64 (root : Int), .int .i64 (by_ : Int), .slice A OO.length c, .int .u64 (rc : Int), .slice (some ⟨gS, 0, none⟩) n n]) (fun w' => w' = w.drew) (by kernel_rfl) (by kernel_rfl) (by kernel_rfl) (by kernel_rfl) (Hck.out.hd.drewN 1) rfl ?_
  repeat (first
    | (refine TxtZL.skip (by rfl) ?_; simp only [Act.put, List.setIfInBounds_toArray, List.set_cons_zero, List.set_cons_succ])
    | (refine TxtZL.take (by rfl) (by rfl) ?_; apply Exists.intro; refine ⟨fun w1 hS1 => ?_, ?_⟩; (focus ((have g7 : w1.cell? ⟨p, 7, none⟩ = some (.int .u64 (rc : Int)) := hS1.cell 7); (have g8 : w1.cell? ⟨p, 8, none⟩ = some (.slice (some ⟨gS, 0, none⟩) n n) := hS1.cell 8); go_simp; with_reducible rfl)); simp only [Act.put, List.setIfInBounds_toArray, List.set_cons_zero, List.set_cons_succ])
    | (refine TxtZL.takeE' (by rfl) (by rfl) ?_; apply Exists.intro; refine ⟨fun w1 hS1 => ?_, ?_⟩; (focus ((have g7 : w1.cell? ⟨p, 7, none⟩ = some (.int .u64 (rc : Int)) := hS1.cell 7); (have g8 : w1.cell? ⟨p, 8, none⟩ = some (.slice (some ⟨gS, 0, none⟩) n n) := hS1.cell 8); go_simp; with_reducible rfl)); simp only [Act.put, List.setIfInBounds_toArray, List.set_cons_zero, List.set_cons_succ]))
  refine TxtZL.call (f := 65) (args := #[.int .u64 (rc : Int), .int .i64 (node : Int)]) (fun u => u = .int .u64 ((rc ||| 1 <<< node : Nat) : Int)) (fun _ w' => w' = w.drew) (by rfl) (by rfl) ⟨_, rfl⟩ (fun w1 hS1 hJ1 => by go_simp) (fun w1 hS1 hJ1 => ?_) ?_
  · refine (Hwith.out w1).mono ?_
    rintro e w' ⟨rfl, rfl⟩
    exact ⟨_, rfl, hS1, rfl, hJ1⟩
  rintro _ rfl
  simp only [Act.put, List.setIfInBounds_toArray, List.set_cons_zero, List.set_cons_succ]
  repeat (first
    | (refine TxtZL.skip (by rfl) ?_; simp only [Act.put, List.setIfInBounds_toArray, List.set_cons_zero, List.set_cons_succ])
    | (refine TxtZL.take (by rfl) (by rfl) ?_; apply Exists.intro; refine ⟨fun w1 hS1 => ?_, ?_⟩; (focus (skip; go_simp; with_reducible rfl)); simp only [Act.put, List.setIfInBounds_toArray, List.set_cons_zero, List.set_cons_succ])
    | (refine TxtZL.takeE' (by rfl) (by rfl) ?_; apply Exists.intro; refine ⟨fun w1 hS1 => ?_, ?_⟩; (focus (skip; go_simp; with_reducible rfl)); simp only [Act.put, List.setIfInBounds_toArray, List.set_cons_zero, List.set_cons_succ]))
  refine TxtZL.eff (fun _ => True) (fun _ w' => w' = w.drew.setCell ⟨gS, node, none⟩ (.int .i64 1)) (by rfl) (by rfl) ⟨undef, trivial⟩ (fun w1 hS1 hJ1 => ?_) ?_
  · have hS2 := hS1.far (p := ⟨gS, node, none⟩) (Ne.symm hne) (.int .i64 1)
    subst hJ1
    exact Eff.skip (w' := w.drew.setCell ⟨gS, node, none⟩ (.int .i64 1)) (by go_simp) ⟨hS2, trivial, rfl⟩
  rintro _ -
  simp only [Act.put]
  repeat (first
    | (refine TxtZL.skip (by rfl) ?_; simp only [Act.put, List.setIfInBounds_toArray, List.set_cons_zero, List.set_cons_succ])
    | (refine TxtZL.take (by rfl) (by rfl) ?_; apply Exists.intro; refine ⟨fun w1 hS1 => ?_, ?_⟩; (focus (skip; go_simp; with_reducible rfl)); simp only [Act.put, List.setIfInBounds_toArray, List.set_cons_zero, List.set_cons_succ])
    | (refine TxtZL.takeE' (by rfl) (by rfl) ?_; apply Exists.intro; refine ⟨fun w1 hS1 => ?_, ?_⟩; (focus (skip; go_simp; with_reducible rfl)); simp only [Act.put, List.setIfInBounds_toArray, List.set_cons_zero, List.set_cons_succ]))
  refine TxtZL.last (fun w' => w' = (w.drew.setCell ⟨gS, node, none⟩ (.int .i64 1)).setCell ⟨p, 7, none⟩ (.int .u64 ((rc ||| 1 <<< node : Nat) : Int))) (by rfl) (by rfl) (fun w1 hS1 hJ1 => ?_) ?_
  · have g7 : w.cell? ⟨p, 7, none⟩ = some (.int .u64 (rc : Int)) := Hck.out.hd.cell 7
    have z7 := hS1.frozen 7
    subst hJ1
    exact Eff.skip (w' := (w.drew.setCell ⟨gS, node, none⟩ (.int .i64 1)).setCell ⟨p, 7, none⟩ (.int .u64 ((rc ||| 1 <<< node : Nat) : Int))) (by go_simp) rfl
  rintro v w2 hw2
  simp only [Act.put]
  have hck2 : CkS n l gB gO k root by_ A OO c p gS (updN2 st node 1) (rc ||| 1 <<< node) w2 := by rw [hw2]; exact (Hck.out.below (Below.refl _ _).drew).enter hnode
  have hmt2 : Mt p gS w w2 := by rw [hw2]; exact (((Mt.refl p gS w).drew).set_ (.inr rfl) _).set_ (.inl rfl) _
  clear hw2 qS qF zF Hwith
  have c1 : w2.cell? ⟨p, 1, none⟩ = some (.slice (some ⟨gB, 0, none⟩) n n) := hck2.hd.cell 1
  obtain ⟨b2, o2, hB2, hc2⟩ := hck2.nr.b node (by rw [byL_length]; exact hnode)
  injection hB2 with hB2; injection hB2 with e1 e2 _; subst e1; subst e2
  rw [Nat.zero_add] at hc2
  have hlist := netList_any ((byL n l).getD node 0) (by rw [byL_at hnode]; exact u64_of hn (mk_pow (inR_flip hv) node)) w2 hck2.tab
  rw [by_bit hv hnode] at hlist
  have hys : ∀ y ∈ (List.range n).filter (fun y => attQ l y node), y < n ∧ attQ l y node = true := fun y hy => by
    rw [List.mem_filter, List.mem_range] at hy; exact hy
  have hys2 : ∀ y, attQ l y node = true → y ∈ (List.range n).filter (fun y => attQ l y node) := fun y hy => List.mem_filter.2 ⟨List.mem_range.2 (att_lt hv (attQ_iff.1 hy)).1, hy⟩
  have hyl : ((List.range n).filter (fun y => attQ l y node)).length ≤ 1000 := by have := List.length_filter_le (fun y => attQ l y node) (List.range n); simp at this; omega
  generalize (List.range n).filter (fun y => attQ l y node) = ys at *
  have hzer := zer_lt (n := n) (st := st) (x := 1) hnode h0 (by decide)
  have hvl : VLoop n k (attQ l) OO node st (updN2 st node 1) [] := VLoop.start h0
  have hle : ∀ v, st v ≤ 2 := Hck.out.le
  have Hlist := Lib.hid hlist; have Hys := Lib.hid hys; have Hys2 := Lib.hid hys2; have Hzer := Lib.hid hzer; have Hm := Lib.hid hm
  generalize rc ||| 1 <<< node = rc2 at *
  clear hlist hys hys2 hzer Hck hm
  go_wp2_with fail
  refine Hlist.out.mono ?_
  rintro e w3 ⟨A7, c7, rfl, hoy, -, -, hb3⟩
  have hck3 := hck2.below hb3
  have hmt3 := hmt2.trans (Mt.of_below hb3)
  have hA7 : ∀ b o, A7 = some ⟨b, o, none⟩ → b ≠ p ∧ b ≠ gS := fun b o e => by
    have := (World.ownsRow.lt hoy b (by rw [e]; rfl)).1
    have := hmt2.size
    omega
  have hri : RI w3 A7 (ys.map Int.ofNat) := hoy.ri
  have HA7 := Lib.hid hA7; have Hri := Lib.hid hri
  rw [List.length_map]
  clear hoy hb3 hck2 hmt2 c1 hc2 Hlist hA7 hri
  go_wp2_with fail
  go_loopw [34] (fun t34 wx => ∃ (cur : Nat → Nat) (rcx q : Nat), q ≤ ys.length ∧ t34 = .int .i64 (q : Int) ∧ CkS n l gB gO k root by_ A OO c p gS cur rcx wx ∧ VLoop n k (attQ l) OO node st cur (ys.take q) ∧ Mt p gS w3 wx) (fun t34 _ => ys.length - (intOf t34).toNat)
  case atStart => exact ⟨_, _, 0, Nat.zero_le _, rfl, hck3, hvl, Mt.refl _ _ _⟩
  case round =>
    clear hck3 hvl
    obtain ⟨cur, rcx, q, hq, rfl, hck, hvl, hmt⟩ := hrel
    by_cases hqy : q < ys.length
    case neg =>
      have hpost := hvl.fin hnode h0 (fun x hx => by rw [List.take_of_length_le (by omega)]; exact Hys2.out x hx)
      have hck5 := hck.leave hvl.me
      have c8 : wr.cell? ⟨p, 8, none⟩ = some (.slice (some ⟨gS, 0, none⟩) n n) := hck.hd.cell 8
      have qS := World.rowIs.cell hck.row hnode
      have qF := World.rowIs.frozen hck.row node
      have hmt5 := (hmt3.trans hmt).set_ (q := ⟨gS, node, none⟩) (.inr rfl) (.int .i64 2)
      have Hpost := Lib.hid hpost; have Hck5 := Lib.hid hck5; have Hmt5 := Lib.hid hmt5
      clear hpost hck5 hmt5 hck hvl hmt hmt3 ih
      go_wp2_with fail
      go_ret
      exact ⟨true, _, _, rfl, Hck5.out, Hpost.out, Hmt5.out⟩
    case pos =>
    obtain ⟨x, hx⟩ : ∃ x, ys[q] = x := ⟨_, rfl⟩
    obtain ⟨hxn, hxa⟩ := Hys.out x (by rw [← hx]; exact List.getElem_mem _)
    have htk : ys.take (q + 1) = ys.take q ++ [x] := by rw [List.take_succ_eq_append_getElem hqy, hx]
    obtain ⟨b7, o7, rfl, hc7⟩ := (hmt.ri Hri.out HA7.out).at_ (k := q) (by rw [List.length_map]; exact hqy)
    rw [List.getElem_map, hx, Int.ofNat_eq_natCast] at hc7
    have c3 : wr.cell? ⟨p, 3, none⟩ = some (.int .i64 (k : Int)) := hck.hd.cell 3
    have c4 : wr.cell? ⟨p, 4, none⟩ = some (.int .i64 (root : Int)) := hck.hd.cell 4
    have c5 : wr.cell? ⟨p, 5, none⟩ = some (.int .i64 (by_ : Int)) := hck.hd.cell 5
    have c6 : wr.cell? ⟨p, 6, none⟩ = some (.slice A OO.length c) := hck.hd.cell 6
    have hrep := reply_any k root by_ A OO c x wr hck.rp hlo hasc (fun q hq => by have := (ho q hq).1; omega) (by omega)
    have Hck := Lib.hid hck; have Hvl := Lib.hid hvl; have Hmt := Lib.hid (hmt3.trans hmt); have Hmt0 := Lib.hid hmt; have Htk := Lib.hid htk; have Hrep := Lib.hid hrep
    clear hck hvl hmt hx htk hrep
    go_wp2_with fail
    refine Hrep.out.mono ?_
    rintro e w5 ⟨rfl, hb5⟩
    have hck5 := Hck.out.below hb5
    have hmt5 := Hmt.out.trans (Mt.of_below hb5)
    have hmt50 := Hmt0.out.trans (Mt.of_below hb5)
    have Hck5 := Lib.hid hck5; have Hmt5 := Lib.hid hmt5; have Hmt50 := Lib.hid hmt50
    have d1 : w5.cell? ⟨p, 1, none⟩ = some (.slice (some ⟨gB, 0, none⟩) n n) := hck5.hd.cell 1
    have d3 : w5.cell? ⟨p, 3, none⟩ = some (.int .i64 (k : Int)) := hck5.hd.cell 3
    have d8 : w5.cell? ⟨p, 8, none⟩ = some (.slice (some ⟨gS, 0, none⟩) n n) := hck5.hd.cell 8
    clear c3 c4 c5 c6 hb5 hmt5 hmt50 Hck Hmt Hmt0 hc7 Hrep
    cases hrp : rpF OO x with
    | none =>
      have hbad := Hvl.out.bad (fun hg => by obtain ⟨y, h1, -⟩ := Hvl.out.good hg hxa; rw [hrp] at h1; cases h1)
      have Hbad := Lib.hid hbad
      rw [replV_none]
      clear hbad hck5 hrp
      go_wp2_with fail
      go_ret
      exact ⟨false, _, _, rfl, Hck5.out, Hbad.out, Hmt5.out⟩
    | some y =>
    rw [replV_some]
    have hyn : y < n := (ho _ (rpF_some hrp)).2
    obtain ⟨b2, o2, hB2, hc2⟩ := hck5.nr.b x (by rw [byL_length]; exact hxn)
    injection hB2 with hB2; injection hB2 with e1 e2 _; subst e1; subst e2
    rw [Nat.zero_add] at hc2
    have hhas := netHas_any ((byL n l).getD x 0) y (by rw [byL_at hxn]; exact u64_of hn (mk_pow (inR_flip hv) x)) (by omega) w5
    have hbt : ((byL n l).getD x 0).testBit y = attQ l y x := by
      rw [byL_at hxn, Bool.eq_iff_iff, attQ_iff]
      exact (has_mkM (inR_flip hv) x y).trans att_flip
    rw [hbt] at hhas
    have hx0 : (0 : Int) ≤ (x : Int) := by omega
    have hx1 : (x : Int) < (n : Int) := by omega
    have hy0 : (0 : Int) ≤ (y : Int) := by omega
    have hy1 : (y : Int) < (n : Int) := by omega
    have qy := World.rowIs.cell hck5.row hyn
    have Hhas := Lib.hid hhas; have Hrp := Lib.hid hrp
    generalize (byL n l).getD x 0 = bx at *
    clear hhas hbt hrp hck5
    cases hat : attQ l y x
    case false =>
      have hbad := Hvl.out.bad (fun hg => by obtain ⟨y', h1, h2, -⟩ := Hvl.out.good hg hxa; rw [Hrp.out] at h1; injection h1 with h1; subst h1; rw [hat] at h2; cases h2)
      have Hbad := Lib.hid hbad
      rw [hat] at Hhas
      clear hbad hat
      go_wp2_with fail
      refine Hhas.out.mono ?_
      rintro e w6 ⟨rfl, rfl⟩
      go_wp2_with fail
      go_ret
      exact ⟨false, _, _, rfl, Hck5.out, Hbad.out, Hmt5.out⟩
    case true =>
    rw [hat] at Hhas
    have Hat := Lib.hid hat
    clear hat
    go_wp2_with fail
    refine Hhas.out.mono ?_
    rintro e w6 ⟨rfl, rfl⟩
    have hle5 := Hck5.out.le y
    by_cases hc0 : cur y = 0
    · rw [hc0] at qy
      have hz2 : zerN n cur < m := by
        have h1 : zerN n cur ≤ zerN n (updN2 st node 1) := zer_le fun v hv => by
          by_cases e : v = node
          · rw [e, updN2_same, Hvl.out.me]
          · rw [updN2_ne e] at hv ⊢; exact Hvl.out.keep v hv
        have := Hzer.out; have := Hm.out
        omega
      have hrec := ih (zerN n cur) hz2 y cur rcx w5 (Nat.le_refl _) hyn hc0 Hck5.out
      have Hrec := Lib.hid hrec; have Hc0 := Lib.hid hc0
      clear hrec hc0 hz2
      go_wp2_with fail
      refine Hrec.out.mono ?_
      rintro e w7 ⟨b, st7, rc7, rfl, hck7, hp7, hmt7⟩
      cases b
      · have hbad := Hvl.out.bad2 hp7 (fun hg => by
          obtain ⟨y', h1, h2, h3, h4⟩ := Hvl.out.good hg hxa
          rw [Hrp.out] at h1; injection h1 with h1; subst h1
          have := hp7.good h4; cases this)
        have Hbad := Lib.hid hbad; have Hck7 := Lib.hid hck7; have Hmt7 := Lib.hid (Hmt5.out.trans hmt7)
        clear hbad hck7 hp7 hmt7 qy
        go_wp2_with fail
        go_ret
        exact ⟨false, _, _, rfl, Hck7.out, Hbad.out, Hmt7.out⟩
      · have hnew := Hvl.out.new Hrp.out hyn Hat.out hxa hp7
        have Hnew := Lib.hid hnew; have Hck7 := Lib.hid hck7; have Hmt7 := Lib.hid (Hmt50.out.trans hmt7)
        clear hnew hck7 hp7 hmt7 qy
        go_wp2_with fail
        go_roundw
        case rel => exact ⟨_, _, q + 1, by omega, by go_num, Hck7.out, by rw [Htk.out]; exact Hnew.out, Hmt7.out⟩
        case measure => simp [intOf]; omega
    · by_cases hc1 : cur y = 1
      · rw [hc1] at qy
        by_cases hk1 : k = 1
        · have hbad := Hvl.out.bad (fun hg => by
            obtain ⟨y', h1, h2, h3, h4⟩ := Hvl.out.good hg hxa
            rw [Hrp.out] at h1; injection h1 with h1; subst h1
            exact h3 hk1 hc1)
          have Hbad := Lib.hid hbad
          have hkb : ((k : Int) == 1) = true := by rw [hk1]; rfl
          clear hbad hc1 hc0 hk1
          go_wp2_with fail
          go_ret
          exact ⟨false, _, _, rfl, Hck5.out, Hbad.out, Hmt5.out⟩
        · have hold := Hvl.out.old Hrp.out hyn Hat.out hc0 (fun e => absurd e hk1) hle
          have Hold := Lib.hid hold
          have hkb : ((k : Int) == 1) = false := by rw [beq_eq_false_iff_ne]; omega
          clear hold hc1 hc0 hk1
          go_wp2_with fail
          go_roundw
          case rel => exact ⟨_, _, q + 1, by omega, by go_num, Hck5.out, by rw [Htk.out]; exact Hold.out, Hmt50.out⟩
          case measure => simp [intOf]; omega
      · have hc2 : cur y = 2 := by omega
        rw [hc2] at qy
        have hold := Hvl.out.old Hrp.out hyn Hat.out hc0 (fun _ => hc1) hle
        have Hold := Lib.hid hold
        clear hold hc1 hc0 hc2
        go_wp2_with fail
        go_roundw
        case rel => exact ⟨_, _, q + 1, by omega, by go_num, Hck5.out, by rw [Htk.out]; exact Hold.out, Hmt50.out⟩
        case measure => simp [intOf]; omega
end Go.Proofs.YtncimnfhfomddaaDoor

/- Package game: the checker's search through an opponent's replies. -/
namespace Go.Proofs.YtncimnfhfomddaaDoor
open Go.ChangeShapes Go.WideShapes Go.ChangeAt Go.RowKit

section
variable {n : Nat} {at_ : Nat → Nat → Bool} {OO : List (Nat × Nat)}
/-- the node has a reply that attacks it, and all attackers of the reply are reached -/
def RcD (n : Nat) (at_ : Nat → Nat → Bool) (OO : List (Nat × Nat)) (rc v : Nat) : Prop := ∃ x, rpF OO v = some x ∧ x < n ∧ at_ x v = true ∧ ∀ y, at_ y x = true → rc.testBit y = true
theorem RcD.mono {rc rc' v : Nat} (h : RcD n at_ OO rc v) (hs : ∀ u, rc.testBit u = true → rc'.testBit u = true) : RcD n at_ OO rc' v := by
  obtain ⟨x, h1, h2, h3, h4⟩ := h
  exact ⟨x, h1, h2, h3, fun y hy => hs y (h4 y hy)⟩
def RGood (n : Nat) (at_ : Nat → Nat → Bool) (OO : List (Nat × Nat)) (node : Nat) : Prop := ∃ R : Nat → Prop, R node ∧ ∀ v, R v → ∃ x, rpF OO v = some x ∧ x < n ∧ at_ x v = true ∧ ∀ y, at_ y x = true → R y
structure RPost (n : Nat) (at_ : Nat → Nat → Bool) (OO : List (Nat × Nat)) (node rc rc' : Nat) (b : Bool) : Prop where
  sub : ∀ v, rc.testBit v = true → rc'.testBit v = true
  me : rc'.testBit node = true
  inv : b = true → ∀ v, rc'.testBit v = true → rc.testBit v = true ∨ RcD n at_ OO rc' v
  good : RGood n at_ OO node → b = true
structure RLoop (n : Nat) (at_ : Nat → Nat → Bool) (OO : List (Nat × Nat)) (node rc cur : Nat) (ys : List Nat) : Prop where
  sub : ∀ v, rc.testBit v = true → cur.testBit v = true
  me : cur.testBit node = true
  inv : ∀ v, cur.testBit v = true → rc.testBit v = true ∨ v = node ∨ RcD n at_ OO cur v
  done : ∀ y ∈ ys, cur.testBit y = true
theorem RLoop.start {node rc : Nat} : RLoop n at_ OO node rc (rc ||| 1 <<< node) [] where
  sub := fun v hv => by rw [bit_with, hv, Bool.true_or]
  me := by rw [bit_with]; simp
  inv := fun v hv => by
    rw [bit_with, Bool.or_eq_true, decide_eq_true_iff] at hv
    rcases hv with hv | hv
    · exact .inl hv
    · exact .inr (.inl hv)
  done := fun y hy => by cases hy
theorem RLoop.old {node rc cur y : Nat} {ys : List Nat} (h : RLoop n at_ OO node rc cur ys) (hy : cur.testBit y = true) : RLoop n at_ OO node rc cur (ys ++ [y]) :=
  ⟨h.sub, h.me, h.inv, fun z hz => by
    rw [List.mem_append, List.mem_singleton] at hz
    rcases hz with hz | rfl
    · exact h.done z hz
    · exact hy⟩
theorem RLoop.new {node rc cur cur' y : Nat} {ys : List Nat} (h : RLoop n at_ OO node rc cur ys) (hp : RPost n at_ OO y cur cur' true) : RLoop n at_ OO node rc cur' (ys ++ [y]) where
  sub := fun v hv => hp.sub v (h.sub v hv)
  me := hp.sub _ h.me
  inv := fun v hv => by
    rcases hp.inv rfl v hv with e | e
    · rcases h.inv v e with e2 | e2 | e2
      · exact .inl e2
      · exact .inr (.inl e2)
      · exact .inr (.inr (e2.mono hp.sub))
    · exact .inr (.inr e)
  done := fun z hz => by
    rw [List.mem_append, List.mem_singleton] at hz
    rcases hz with hz | rfl
    · exact hp.sub z (h.done z hz)
    · exact hp.me
theorem RLoop.fin {node rc cur x : Nat} {ys : List Nat} (h : RLoop n at_ OO node rc cur ys) (h1 : rpF OO node = some x) (h2 : x < n) (h3 : at_ x node = true) (hy : ∀ y, at_ y x = true → y ∈ ys) : RPost n at_ OO node rc cur true where
  sub := h.sub
  me := h.me
  inv := fun _ v hv => by
    rcases h.inv v hv with e | e | e
    · exact .inl e
    · exact .inr (by rw [e]; exact ⟨x, h1, h2, h3, fun y hyx => h.done y (hy y hyx)⟩)
    · exact .inr e
  good := fun _ => rfl
theorem RLoop.bad {node rc cur : Nat} {ys : List Nat} (h : RLoop n at_ OO node rc cur ys) (hg : ¬ RGood n at_ OO node) : RPost n at_ OO node rc cur false :=
  ⟨h.sub, h.me, (fun e => by cases e), fun g => absurd g hg⟩
theorem RLoop.bad2 {node rc cur cur' y : Nat} {ys : List Nat} (h : RLoop n at_ OO node rc cur ys) (hp : RPost n at_ OO y cur cur' false) (hg : ¬ RGood n at_ OO node) : RPost n at_ OO node rc cur' false :=
  ⟨fun v hv => hp.sub v (h.sub v hv), hp.sub _ h.me, (fun e => by cases e), fun g => absurd g hg⟩
theorem RGood.step {node x y : Nat} (hg : RGood n at_ OO node) (h1 : rpF OO node = some x) (hy : at_ y x = true) : RGood n at_ OO y := by
  obtain ⟨R, hR, hcl⟩ := hg
  obtain ⟨x', e1, _, _, e4⟩ := hcl node hR
  rw [h1] at e1; injection e1 with e1; subst e1
  exact ⟨R, e4 y hy, hcl⟩
theorem RGood.reply {node : Nat} (hg : RGood n at_ OO node) : ∃ x, rpF OO node = some x ∧ x < n ∧ at_ x node = true := by
  obtain ⟨R, hR, hcl⟩ := hg
  obtain ⟨x', e1, e2, e3, _⟩ := hcl node hR
  exact ⟨x', e1, e2, e3⟩
end
/-- the nodes that are not reached -/
def nrcN (n rc : Nat) : Nat := (List.range n).countP fun v => !rc.testBit v
theorem nrc_le {n rc rc' : Nat} (h : ∀ v, rc.testBit v = true → rc'.testBit v = true) : nrcN n rc' ≤ nrcN n rc := countP_le_of fun v _ hv => by
  rw [Bool.not_eq_true'] at hv ⊢
  cases e : rc.testBit v
  · rfl
  · rw [h v e] at hv; cases hv
theorem nrc_lt {n rc node : Nat} (hn : node < n) (h : rc.testBit node = false) : nrcN n (rc ||| 1 <<< node) < nrcN n rc :=
  countP_lt_of (fun v _ hv => by
    rw [Bool.not_eq_true', bit_with] at hv
    rw [Bool.not_eq_true']
    cases e : rc.testBit v
    · rfl
    · rw [e] at hv; cases hv) ⟨node, List.mem_range.2 hn, by rw [bit_with]; simp, by rw [h]; rfl⟩
/-- the checker in memory, the states aside -/
structure CkR (n : Nat) (l : List (Int × Int)) (gB gO k root by_ : Nat) (A : Option Addr) (OO : List (Nat × Nat)) (c p : Nat) (sv : Value) (rc : Nat) (w : World) : Prop where
  hd : Blk w p 122 #[.int .u64 ((allN n : Nat) : Int), .slice (some ⟨gB, 0, none⟩) n n, .slice (some ⟨gO, 0, none⟩) n n, .int .i64 (k : Int), .int .i64 (root : Int), .int .i64 (by_ : Int), .slice A OO.length c, .int .u64 (rc : Int), sv]
  nr : NetR w n l (some ⟨gB, 0, none⟩) (some ⟨gO, 0, none⟩)
  rp : RP w A (OO.map toI)
  tab : Tab w
  nb : gB ≠ p ∧ gO ≠ p
  na : OO ≠ [] → ∀ b o, A = some ⟨b, o, none⟩ → b ≠ p
  nt : 0 ≠ p
  rcl : rc < 2 ^ n
section
variable {n : Nat} {l : List (Int × Int)} {gB gO k root by_ : Nat} {A : Option Addr} {OO : List (Nat × Nat)} {c p : Nat} {sv : Value} {rc : Nat} {w w' : World}
theorem CkR.below (h : CkR n l gB gO k root by_ A OO c p sv rc w) (hb : Below w.heap.size w w') : CkR n l gB gO k root by_ A OO c p sv rc w' :=
  { h with hd := h.hd.below hb h.hd.lt, nr := h.nr.below hb, rp := h.rp.below hb, tab := h.tab.below hb }
theorem CkR.enter (h : CkR n l gB gO k root by_ A OO c p sv rc w) {i : Nat} (hi : i < n) :
    CkR n l gB gO k root by_ A OO c p sv (rc ||| 1 <<< i) (w.setCell ⟨p, 7, none⟩ (.int .u64 ((rc ||| 1 <<< i : Nat) : Int))) :=
  { hd := h.hd.set_ 7 _
    nr := ⟨h.nr.b.far (p := ⟨p, 7, none⟩) h.nb.1 _, h.nr.o.far (p := ⟨p, 7, none⟩) h.nb.2 _⟩
    rp := h.rp.farG0 h.na 7 _
    tab := h.tab.far (a := ⟨p, 7, none⟩) h.nt _
    nb := h.nb, na := h.na, nt := h.nt, rcl := with_lt h.rcl hi }
end
def RetRs (n : Nat) (l : List (Int × Int)) (gB gO k root by_ : Nat) (A : Option Addr) (OO : List (Nat × Nat)) (c p : Nat) (sv : Value) (node rc : Nat) (w : World) : Ending → World → Prop := fun e w' => ∃ (b : Bool) (rc' : Nat), e = .returned (.bool b) ∧ CkR n l gB gO k root by_ A OO c p sv rc' w' ∧ RPost n (attQ l) OO node rc rc' b ∧ Mt p p w w'

set_option maxRecDepth 100000 in
set_option maxHeartbeats 16000000 in
theorem resists_any {n : Nat} {l : List (Int × Int)} (hv : InR n l) (gB gO k root by_ : Nat) (A : Option Addr) (OO : List (Nat × Nat)) (c p : Nat) (sv : Value) (ho : ∀ q ∈ OO, q.1 < n ∧ q.2 < n) (hasc : AscR OO) (hlo : OO.length ≤ 100000) : ∀ (m node rc : Nat) (w : World), nrcN n rc ≤ m → node < n → rc.testBit node = false → CkR n l gB gO k root by_ A OO c p sv rc w →
    Calls Tryd.prog 122 #[.pointer (some ⟨p, 0, none⟩), .int .i64 (node : Int)] w (RetRs n l gB gO k root by_ A OO c p sv node rc w) := by
  intro m
  induction m using Nat.strongRecOn
  rename_i m ih
  intro node rc w hm hnode h0 hck
  have hn := hv.1
  have hn0 : (0 : Int) ≤ (node : Int) := by omega
  have hn1 : (node : Int) < (n : Int) := by omega
  have hwith := netWith_any rc node (u64_of hn hck.rcl) (by omega) w
  have g7 : w.cell? ⟨p, 7, none⟩ = some (.int .u64 (rc : Int)) := hck.hd.cell 7
  have z7 := hck.hd.frozen 7
  have hzer := nrc_lt hnode h0
  have hrl : RLoop n (attQ l) OO node rc (rc ||| 1 <<< node) [] := RLoop.start
  have hck2 := hck.enter hnode
  have hmt2 := (Mt.refl p p w).set_ (q := ⟨p, 7, none⟩) (.inl rfl) (.int .u64 ((rc ||| 1 <<< node : Nat) : Int))
  have Hwith := Lib.hid hwith; have Hzer := Lib.hid hzer; have Hm := Lib.hid hm
  generalize rc ||| 1 <<< node = rc2 at *
  obtain ⟨w2, hw2⟩ : ∃ w2, w.setCell ⟨p, 7, none⟩ (.int .u64 (rc2 : Int)) = w2 := ⟨_, rfl⟩
  rw [hw2] at hck2 hmt2
  have c3 : w2.cell? ⟨p, 3, none⟩ = some (.int .i64 (k : Int)) := hck2.hd.cell 3
  have c4 : w2.cell? ⟨p, 4, none⟩ = some (.int .i64 (root : Int)) := hck2.hd.cell 4
  have c5 : w2.cell? ⟨p, 5, none⟩ = some (.int .i64 (by_ : Int)) := hck2.hd.cell 5
  have c6 : w2.cell? ⟨p, 6, none⟩ = some (.slice A OO.length c) := hck2.hd.cell 6
  have hrep := reply_any k root by_ A OO c node w2 hck2.rp hlo hasc (fun q hq => by have := (ho q hq).1; omega) (by omega)
  have Hck2 := Lib.hid hck2; have Hrep := Lib.hid hrep; have Hw2 := Lib.hid hw2
  clear hck hwith hzer hm hrep hck2 hw2
  go_enter Tryd.func122, Tryd.ntmps122
  go_wp2_with fail
  refine Hwith.out.mono ?_
  rintro e w1 ⟨rfl, rfl⟩
  go_upto_region 2 with fail
  rw [Hw2.out]
  clear g7 z7
  go_wp2_with fail
  refine Hrep.out.mono ?_
  rintro e w5 ⟨rfl, hb5⟩
  have hck5 := Hck2.out.below hb5
  have hmt5 := hmt2.trans (Mt.of_below hb5)
  have Hck5 := Lib.hid hck5; have Hmt5 := Lib.hid hmt5
  have d1 : w5.cell? ⟨p, 1, none⟩ = some (.slice (some ⟨gB, 0, none⟩) n n) := hck5.hd.cell 1
  clear c3 c4 c5 c6 hb5 Hck2 Hrep hmt2 Hwith Hw2 hmt5
  cases hrp : rpF OO node with
  | none =>
    have hbad := hrl.bad (fun hg => by obtain ⟨x, h1, -⟩ := hg.reply; rw [hrp] at h1; cases h1)
    have Hbad := Lib.hid hbad
    rw [replV_none]
    clear hbad hck5 hrp
    go_wp2_with fail
    go_ret
    exact ⟨false, _, rfl, Hck5.out, Hbad.out, Hmt5.out⟩
  | some x =>
  rw [replV_some]
  have hxn : x < n := (ho _ (rpF_some hrp)).2
  obtain ⟨b2, o2, hB2, hc2⟩ := hck5.nr.b node (by rw [byL_length]; exact hnode)
  injection hB2 with hB2; injection hB2 with e1 e2 _; subst e1; subst e2
  rw [Nat.zero_add] at hc2
  have hhas := netHas_any ((byL n l).getD node 0) x (by rw [byL_at hnode]; exact u64_of hn (mk_pow (inR_flip hv) node)) (by omega) w5
  have hbt : ((byL n l).getD node 0).testBit x = attQ l x node := by
    rw [byL_at hnode, Bool.eq_iff_iff, attQ_iff]
    exact (has_mkM (inR_flip hv) node x).trans att_flip
  rw [hbt] at hhas
  have hx0 : (0 : Int) ≤ (x : Int) := by omega
  have hx1 : (x : Int) < (n : Int) := by omega
  have Hhas := Lib.hid hhas; have Hrp := Lib.hid hrp
  generalize (byL n l).getD node 0 = bn at *
  clear hhas hbt hrp
  cases hat : attQ l x node
  case false =>
    have hbad := hrl.bad (fun hg => by obtain ⟨x', h1, _, h3⟩ := hg.reply; rw [Hrp.out] at h1; injection h1 with h1; subst h1; rw [hat] at h3; cases h3)
    have Hbad := Lib.hid hbad
    rw [hat] at Hhas
    clear hbad hat hck5
    go_wp2_with fail
    refine Hhas.out.mono ?_
    rintro e w6 ⟨rfl, rfl⟩
    go_wp2_with fail
    go_ret
    exact ⟨false, _, rfl, Hck5.out, Hbad.out, Hmt5.out⟩
  case true =>
  rw [hat] at Hhas
  have Hat := Lib.hid hat
  obtain ⟨b3, o3, hB3, hc3⟩ := hck5.nr.b x (by rw [byL_length]; exact hxn)
  injection hB3 with hB3; injection hB3 with e1 e2 _; subst e1; subst e2
  rw [Nat.zero_add] at hc3
  have hlist := netList_any ((byL n l).getD x 0) (by rw [byL_at hxn]; exact u64_of hn (mk_pow (inR_flip hv) x)) w5 hck5.tab
  rw [by_bit hv hxn] at hlist
  have hys : ∀ y ∈ (List.range n).filter (fun y => attQ l y x), y < n ∧ attQ l y x = true := fun y hy => by
    rw [List.mem_filter, List.mem_range] at hy; exact hy
  have hys2 : ∀ y, attQ l y x = true → y ∈ (List.range n).filter (fun y => attQ l y x) := fun y hy => List.mem_filter.2 ⟨List.mem_range.2 (att_lt hv (attQ_iff.1 hy)).1, hy⟩
  have hyl : ((List.range n).filter (fun y => attQ l y x)).length ≤ 1000 := by have := List.length_filter_le (fun y => attQ l y x) (List.range n); simp at this; omega
  generalize (List.range n).filter (fun y => attQ l y x) = ys at *
  generalize (byL n l).getD x 0 = bx at *
  have Hlist := Lib.hid hlist; have Hys := Lib.hid hys; have Hys2 := Lib.hid hys2
  clear hat hlist hys hys2
  go_wp2_with fail
  refine Hhas.out.mono ?_
  rintro e w6 ⟨rfl, rfl⟩
  go_wp2_with fail
  refine Hlist.out.mono ?_
  rintro e w7 ⟨A7, c7, rfl, hoy, -, -, hb7⟩
  have hck7 := hck5.below hb7
  have hmt7 := Hmt5.out.trans (Mt.of_below hb7)
  have hp5 := hck5.hd.lt
  have hA7 : ∀ b o, A7 = some ⟨b, o, none⟩ → b ≠ p ∧ b ≠ p := fun b o e => by
    have := (World.ownsRow.lt hoy b (by rw [e]; rfl)).1
    omega
  have hri : RI w7 A7 (ys.map Int.ofNat) := hoy.ri
  have HA7 := Lib.hid hA7; have Hri := Lib.hid hri; have Hmt7 := Lib.hid hmt7
  rw [List.length_map]
  clear hoy hb7 d1 hc2 hc3 Hlist hA7 hri hck5 Hck5 Hmt5 hmt7 Hhas
  go_wp2_with fail
  go_loopw [52] (fun t52 wx => ∃ (cur q : Nat), q ≤ ys.length ∧ t52 = .int .i64 (q : Int) ∧ CkR n l gB gO k root by_ A OO c p sv cur wx ∧ RLoop n (attQ l) OO node rc cur (ys.take q) ∧ (∀ v, rc2.testBit v = true → cur.testBit v = true) ∧ Mt p p w7 wx) (fun t52 _ => ys.length - (intOf t52).toNat)
  case atStart => exact ⟨_, 0, Nat.zero_le _, rfl, hck7, hrl, fun _ h => h, Mt.refl _ _ _⟩
  case round =>
    clear hck7 hrl
    obtain ⟨cur, q, hq, rfl, hck, hrl, hsub, hmt⟩ := hrel
    by_cases hqy : q < ys.length
    case neg =>
      have hpost := hrl.fin Hrp.out hxn Hat.out (fun y hy => by rw [List.take_of_length_le (by omega)]; exact Hys2.out y hy)
      have Hpost := Lib.hid hpost; have Hck := Lib.hid hck; have Hmt := Lib.hid (Hmt7.out.trans hmt)
      clear hpost hck hrl hmt ih hsub
      go_wp2_with fail
      go_ret
      exact ⟨true, _, rfl, Hck.out, Hpost.out, Hmt.out⟩
    case pos =>
    obtain ⟨y, hy⟩ : ∃ y, ys[q] = y := ⟨_, rfl⟩
    obtain ⟨hyn, hya⟩ := Hys.out y (by rw [← hy]; exact List.getElem_mem _)
    have htk : ys.take (q + 1) = ys.take q ++ [y] := by rw [List.take_succ_eq_append_getElem hqy, hy]
    obtain ⟨b7, o7, rfl, hc7⟩ := (hmt.ri Hri.out HA7.out).at_ (k := q) (by rw [List.length_map]; exact hqy)
    rw [List.getElem_map, hy, Int.ofNat_eq_natCast] at hc7
    have c7' : wr.cell? ⟨p, 7, none⟩ = some (.int .u64 (cur : Int)) := hck.hd.cell 7
    have hhas := netHas_any cur y (u64_of hn hck.rcl) (by omega) wr
    have Hck := Lib.hid hck; have Hrl := Lib.hid hrl; have Hmt := Lib.hid (Hmt7.out.trans hmt); have Hmt0 := Lib.hid hmt; have Htk := Lib.hid htk; have Hhas := Lib.hid hhas; have Hsub := Lib.hid hsub
    clear hck hrl hmt hy htk hhas hsub
    cases hcy : cur.testBit y
    case true =>
      have hold := Hrl.out.old hcy
      have Hold := Lib.hid hold
      rw [hcy] at Hhas
      clear hold hcy
      go_wp2_with fail
      refine Hhas.out.mono ?_
      rintro e w8 ⟨rfl, rfl⟩
      go_wp2_with fail
      go_roundw
      case rel => exact ⟨_, q + 1, by omega, by go_num, Hck.out, by rw [Htk.out]; exact Hold.out, Hsub.out, Hmt0.out⟩
      case measure => simp [intOf]; omega
    case false =>
    rw [hcy] at Hhas
    have hz2 : nrcN n cur < m := by
      have h1 : nrcN n cur ≤ nrcN n rc2 := nrc_le Hsub.out
      have := Hzer.out; have := Hm.out
      omega
    have hrec := ih (nrcN n cur) hz2 y cur wr (Nat.le_refl _) hyn hcy Hck.out
    have Hrec := Lib.hid hrec
    clear hrec hcy hz2
    go_wp2_with fail
    refine Hhas.out.mono ?_
    rintro e w8 ⟨rfl, rfl⟩
    go_wp2_with fail
    refine Hrec.out.mono ?_
    rintro e w9 ⟨b, rc9, rfl, hck9, hp9, hmt9⟩
    cases b
    · have hbad := Hrl.out.bad2 hp9 (fun hg => by have := hp9.good (hg.step Hrp.out hya); cases this)
      have Hbad := Lib.hid hbad; have Hck9 := Lib.hid hck9; have Hmt9 := Lib.hid (Hmt.out.trans hmt9)
      clear hbad hck9 hp9 hmt9
      go_wp2_with fail
      go_ret
      exact ⟨false, _, rfl, Hck9.out, Hbad.out, Hmt9.out⟩
    · have hnew := Hrl.out.new hp9
      have hs9 : ∀ v, rc2.testBit v = true → rc9.testBit v = true := fun v hv => hp9.sub v (Hsub.out v hv)
      have Hnew := Lib.hid hnew; have Hck9 := Lib.hid hck9; have Hmt9 := Lib.hid (Hmt0.out.trans hmt9); have Hs9 := Lib.hid hs9
      clear hnew hck9 hp9 hmt9 hs9
      go_wp2_with fail
      go_roundw
      case rel => exact ⟨_, q + 1, by omega, by go_num, Hck9.out, by rw [Htk.out]; exact Hnew.out, Hs9.out, Hmt9.out⟩
      case measure => simp [intOf]; omega
end Go.Proofs.YtncimnfhfomddaaDoor

/- Package game: whether a strategy wins. -/
namespace Go.Proofs.YtncimnfhfomddaaDoor
open Go.ChangeShapes Go.WideShapes Go.ChangeAt Go.RowKit

set_option maxRecDepth 100000 in
set_option maxHeartbeats 4000000 in
theorem ones_any (n : Nat) (hn : n ≤ 10) (w : World) : Calls Tryd.prog 144 #[.int .u64 ((allN n : Nat) : Int)] w (Ret (.int .i64 (n : Int)) w) := by
  have hk : n = 0 ∨ n = 1 ∨ n = 2 ∨ n = 3 ∨ n = 4 ∨ n = 5 ∨ n = 6 ∨ n = 7 ∨ n = 8 ∨ n = 9 ∨ n = 10 := by omega
  rcases hk with rfl | rfl | rfl | rfl | rfl | rfl | rfl | rfl | rfl | rfl | rfl
  all_goals
    (first | rw [show ((allN 0 : Nat) : Int) = 0 from rfl] | rw [show ((allN 1 : Nat) : Int) = 1 from rfl] | rw [show ((allN 2 : Nat) : Int) = 3 from rfl] | rw [show ((allN 3 : Nat) : Int) = 7 from rfl] | rw [show ((allN 4 : Nat) : Int) = 15 from rfl] | rw [show ((allN 5 : Nat) : Int) = 31 from rfl] | rw [show ((allN 6 : Nat) : Int) = 63 from rfl] | rw [show ((allN 7 : Nat) : Int) = 127 from rfl] | rw [show ((allN 8 : Nat) : Int) = 255 from rfl] | rw [show ((allN 9 : Nat) : Int) = 511 from rfl] | rw [show ((allN 10 : Nat) : Int) = 1023 from rfl])
    go_enter Tryd.func144, Tryd.ntmps144
    go_wp2_with fail
    go_ret
    refine ⟨?_, rfl⟩
    kernel_rfl

set_option maxRecDepth 100000 in
theorem size_any (n : Nat) (hn : n ≤ 10) (w : World) : Calls Tryd.prog 123 #[.int .u64 ((allN n : Nat) : Int)] w (Ret (.int .i64 (n : Int)) w) := by
  have H := Lib.hid (ones_any n hn w)
  go_enter Tryd.func123, Tryd.ntmps123
  go_wp2_with fail
  refine H.out.mono ?_
  rintro e w1 ⟨rfl, rfl⟩
  go_wp2_with fail
  go_ret
  exact ⟨rfl, rfl⟩

/-- what the answer to "does the strategy win" tells -/
def WPost (n : Nat) (l : List (Int × Int)) (k by_ root : Nat) (OO : List (Nat × Nat)) (b : Bool) : Prop :=
  (by_ = 1 → ∃ (b1 : Bool) (cur : Nat → Nat) (rc : Nat), VPost n k (attQ l) OO root (fun _ => 0) cur b1 ∧ (∀ v, rc.testBit v = decide (cur v ≠ 0)) ∧ rc < 2 ^ n ∧ b = (b1 && (decide (k = 1) || freeS n (attQ l) rc))) ∧
  (by_ = 2 → k = 1 → ∃ rc, RPost n (attQ l) OO root 0 rc b) ∧
  (by_ = 2 → k = 2 → OO.length = 0 → b = (srS n (attQ l) (n + 1) (1 <<< root)).isNone) ∧ (by_ = 2 → k = 2 → OO.length ≠ 0 → b = false)
def RetWn (n : Nat) (l : List (Int × Int)) (k by_ root : Nat) (OO : List (Nat × Nat)) (p gS : Nat) (w : World) : Ending → World → Prop := fun e w' => ∃ b : Bool, e = .returned (.bool b) ∧ WPost n l k by_ root OO b ∧ Mt p gS w w'
theorem CkS.toR {n : Nat} {l : List (Int × Int)} {gB gO k root by_ : Nat} {A : Option Addr} {OO : List (Nat × Nat)} {c p gS : Nat} {st : Nat → Nat} {rc : Nat} {w : World} (h : CkS n l gB gO k root by_ A OO c p gS st rc w) : CkR n l gB gO k root by_ A OO c p (.slice (some ⟨gS, 0, none⟩) n n) rc w :=
  { hd := h.hd, nr := h.nr, rp := h.rp, tab := h.tab, nb := ⟨h.nb.1.1, h.nb.2.1⟩, na := fun hne b o e => (h.na hne b o e).1, nt := h.nt.1, rcl := h.rcl }
theorem Mt.one {p g : Nat} {a b : World} (h : Mt p p a b) : Mt p g a b := ⟨h.os, h.tape, h.output, h.size, fun k hk h1 _ => h.block k hk h1 h1⟩

def WnS (n gB gO k root p : Nat) (w : World) : Prop := w.cell? ⟨p, 0, none⟩ = some (.int .u64 ((allN n : Nat) : Int)) ∧ w.cell? ⟨p, 1, none⟩ = some (.slice (some ⟨gB, 0, none⟩) n n) ∧ w.cell? ⟨p, 2, none⟩ = some (.slice (some ⟨gO, 0, none⟩) n n) ∧ w.cell? ⟨p, 3, none⟩ = some (.int .i64 (k : Int)) ∧ w.cell? ⟨p, 4, none⟩ = some (.int .i64 (root : Int))
theorem WnS.of {n : Nat} {l : List (Int × Int)} {gB gO k root by_ : Nat} {A : Option Addr} {OO : List (Nat × Nat)} {c p gS : Nat} {st : Nat → Nat} {rc : Nat} {w : World} (h : CkS n l gB gO k root by_ A OO c p gS st rc w) : WnS n gB gO k root p w := ⟨h.hd.cell 0, h.hd.cell 1, h.hd.cell 2, h.hd.cell 3, h.hd.cell 4⟩

set_option maxRecDepth 100000 in
set_option maxHeartbeats 16000000 in
theorem wins_any {n : Nat} {l : List (Int × Int)} (hv : InR n l) (hn10 : n ≤ 10) (gB gO k root by_ : Nat) (A : Option Addr) (OO : List (Nat × Nat)) (c p gS : Nat) (hroot : root < n) (hk : k = 1 ∨ k = 2) (hby : by_ = 1 ∨ by_ = 2) (ho : ∀ q ∈ OO, q.1 < n ∧ q.2 < n) (hasc : AscR OO) (hlo : OO.length ≤ 100000) (w : World) (hck : CkS n l gB gO k root by_ A OO c p gS (fun _ => 0) 0 w) :
    Calls Tryd.prog 88 #[.pointer (some ⟨p, 0, none⟩)] w (RetWn n l k by_ root OO p gS w) := by
  have c0 : w.cell? ⟨p, 0, none⟩ = some (.int .u64 ((allN n : Nat) : Int)) := hck.hd.cell 0
  have c1 : w.cell? ⟨p, 1, none⟩ = some (.slice (some ⟨gB, 0, none⟩) n n) := hck.hd.cell 1
  have c2 : w.cell? ⟨p, 2, none⟩ = some (.slice (some ⟨gO, 0, none⟩) n n) := hck.hd.cell 2
  have c3 : w.cell? ⟨p, 3, none⟩ = some (.int .i64 (k : Int)) := hck.hd.cell 3
  have c4 : w.cell? ⟨p, 4, none⟩ = some (.int .i64 (root : Int)) := hck.hd.cell 4
  have c5 : w.cell? ⟨p, 5, none⟩ = some (.int .i64 (by_ : Int)) := hck.hd.cell 5
  have c6 : w.cell? ⟨p, 6, none⟩ = some (.slice A OO.length c) := hck.hd.cell 6
  have hT := hck.tab
  have hr64 : root < 64 := by omega
  have hs0 : 1 <<< root < 2 ^ n := by rw [Nat.one_shiftLeft]; exact Nat.pow_lt_pow_right (by omega) hroot
  have hse : ∀ w2, Below w.heap.size w w2 → _ := fun w2 hb => gSearch_any hv (some ⟨gB, 0, none⟩) (some ⟨gO, 0, none⟩) (n + 1) (1 <<< root) w2 hs0 (by omega) (hck.tab.below hb) (hck.nr.below hb)
  have hw0 : ∀ w, Calls Tryd.prog 65 #[.int .u64 0, .int .i64 (root : Int)] w (Ret (.int .u64 ((1 <<< root : Nat) : Int)) w) := fun w => by
    have := netWith_any 0 root (by decide) hr64 w
    rwa [Nat.zero_or] at this
  have hsz := size_any n hn10 w
  have hvi := fun w2 hc => visitR_any hv gB gO k root by_ A OO c p gS ho hasc hlo (zerN n (fun _ => 0)) root (fun _ => 0) 0 w2 (Nat.le_refl _) hroot rfl hc
  have hre := resists_any hv gB gO k root by_ A OO c p (.slice (some ⟨gS, 0, none⟩) n n) ho hasc hlo (nrcN n 0) root 0 w (Nat.le_refl _) hroot (Nat.zero_testBit _) hck.toR
  have Hse := Lib.hid hse; have Hw0 := Lib.hid hw0; have Hsz := Lib.hid hsz; have Hvi := Lib.hid hvi; have Hre := Lib.hid hre; have Hv := Lib.hid hv; have Hck := Lib.hid hck
  have hni : ((n : Int) > 10) = False := by simp; omega
  have hnd : decide ((10 : Int) < (n : Int)) = false := by rw [decide_eq_false_iff_not]; omega
  clear hck hT hse hw0 hsz hvi hre hv hni ho hasc
  rcases hby with rfl | rfl
  · have hgo : ∀ b : Bool, True := fun _ => trivial
    go_enter Tryd.func88, Tryd.ntmps88
    go_upto_region 2 with fail
    have hck := Hck.out
    refine wp_region_textB [6, 7, 14, 22, 23] (fun w' => WnS n gB gO k root p w') (fun w' => CkS n l gB gO k root 1 A OO c p gS (fun _ => 0) 0 w' ∧ Mt p gS w w') (by kernel_rfl) (by kernel_rfl) (by kernel_rfl) (WnS.of (hck.below (Below.refl _ _).drew)) ⟨hck.below (Below.refl _ _).drew, (Mt.refl _ _ _).drew⟩ ?_
    clear c0 c1 c2 c3 c4 c5 c6
    repeat (first
      | (refine TxtBL.skip (by rfl) ?_; simp only [Act.put, List.setIfInBounds_toArray, List.set_cons_zero, List.set_cons_succ])
      | (refine TxtBL.take (by rfl) (by rfl) ?_; apply Exists.intro; refine ⟨fun w1 hS1 => ?_, ?_⟩; (focus ((obtain ⟨g0, g1, g2, g3, g4⟩ := hS1); go_simp; with_reducible rfl)); simp only [Act.put, List.setIfInBounds_toArray, List.set_cons_zero, List.set_cons_succ])
      | (refine TxtBL.takeE (by rfl) (by rfl) ?_; apply Exists.intro; refine ⟨fun w1 hS1 => ?_, ?_⟩; (focus ((obtain ⟨g0, g1, g2, g3, g4⟩ := hS1); go_simp; with_reducible rfl)); simp only [Act.put, List.setIfInBounds_toArray, List.set_cons_zero, List.set_cons_succ]))
    refine TxtBL.call (f := 121) (args := #[.pointer (some ⟨p, 0, none⟩), .int .i64 (root : Int)]) (fun u => ∃ b : Bool, u = .bool b) (fun u w' => ∃ (b : Bool) (st : Nat → Nat) (rc : Nat), u = .bool b ∧ CkS n l gB gO k root 1 A OO c p gS st rc w' ∧ VPost n k (attQ l) OO root (fun _ => 0) st b ∧ Mt p gS w w') (by rfl) (by rfl) ⟨.bool true, true, rfl⟩ (fun w1 hS1 hJ1 => by go_simp) (fun w1 hS1 hJ1 => ?_) ?_
    · refine (Hvi.out w1 hJ1.1).mono ?_
      rintro e w' ⟨b, st, rc, rfl, hc, hp, hm⟩
      exact ⟨_, rfl, WnS.of hc, ⟨b, rfl⟩, b, st, rc, rfl, hc, hp, hJ1.2.trans hm⟩
    rintro _ ⟨b, rfl⟩
    simp only [Act.put, List.setIfInBounds_toArray, List.set_cons_zero, List.set_cons_succ]
    cases b
    ·
      repeat (first
        | (refine TxtBL.skip (by rfl) ?_; simp only [Act.put, List.setIfInBounds_toArray, List.set_cons_zero, List.set_cons_succ])
        | (refine TxtBL.take (by rfl) (by rfl) ?_; apply Exists.intro; refine ⟨fun w1 hS1 => ?_, ?_⟩; (focus ((obtain ⟨g0, g1, g2, g3, g4⟩ := hS1); go_simp; with_reducible rfl)); simp only [Act.put, List.setIfInBounds_toArray, List.set_cons_zero, List.set_cons_succ])
        | (refine TxtBL.takeE (by rfl) (by rfl) ?_; apply Exists.intro; refine ⟨fun w1 hS1 => ?_, ?_⟩; (focus ((obtain ⟨g0, g1, g2, g3, g4⟩ := hS1); go_simp; with_reducible rfl)); simp only [Act.put, List.setIfInBounds_toArray, List.set_cons_zero, List.set_cons_succ]))
      refine TxtBL.nil (fun W3 hS3 hJ3 => ?_)
      obtain ⟨b, st, rc, hb, hc, hp, hm⟩ := hJ3
      injection hb with hb; subst hb
      have Hc := Lib.hid hc; have Hp := Lib.hid hp; have Hm := Lib.hid hm
      clear hc hp hm hS3
      go_wp2_with fail
      go_ret
      exact ⟨false, rfl, ⟨fun _ => ⟨false, st, rc, Hp.out, Hc.out.rcs, Hc.out.rcl, rfl⟩, fun h => (by cases h), fun h => (by cases h), fun h => (by cases h)⟩, Hm.out⟩
    · rcases hk with rfl | rfl
      ·
        repeat (first
          | (refine TxtBL.skip (by rfl) ?_; simp only [Act.put, List.setIfInBounds_toArray, List.set_cons_zero, List.set_cons_succ])
          | (refine TxtBL.take (by rfl) (by rfl) ?_; apply Exists.intro; refine ⟨fun w1 hS1 => ?_, ?_⟩; (focus ((obtain ⟨g0, g1, g2, g3, g4⟩ := hS1); go_simp; with_reducible rfl)); simp only [Act.put, List.setIfInBounds_toArray, List.set_cons_zero, List.set_cons_succ])
          | (refine TxtBL.takeE (by rfl) (by rfl) ?_; apply Exists.intro; refine ⟨fun w1 hS1 => ?_, ?_⟩; (focus ((obtain ⟨g0, g1, g2, g3, g4⟩ := hS1); go_simp; with_reducible rfl)); simp only [Act.put, List.setIfInBounds_toArray, List.set_cons_zero, List.set_cons_succ]))
        refine TxtBL.nil (fun W3 hS3 hJ3 => ?_)
        obtain ⟨b, st, rc, hb, hc, hp, hm⟩ := hJ3
        injection hb with hb; subst hb
        have Hc := Lib.hid hc; have Hp := Lib.hid hp; have Hm := Lib.hid hm
        clear hc hp hm hS3
        go_wp2_with fail
        go_ret
        exact ⟨true, rfl, ⟨fun _ => ⟨true, st, rc, Hp.out, Hc.out.rcs, Hc.out.rcl, rfl⟩, fun h => (by cases h), fun h => (by cases h), fun h => (by cases h)⟩, Hm.out⟩
      ·
        repeat (first
          | (refine TxtBL.skip (by rfl) ?_; simp only [Act.put, List.setIfInBounds_toArray, List.set_cons_zero, List.set_cons_succ])
          | (refine TxtBL.take (by rfl) (by rfl) ?_; apply Exists.intro; refine ⟨fun w1 hS1 => ?_, ?_⟩; (focus ((obtain ⟨g0, g1, g2, g3, g4⟩ := hS1); go_simp; with_reducible rfl)); simp only [Act.put, List.setIfInBounds_toArray, List.set_cons_zero, List.set_cons_succ])
          | (refine TxtBL.takeE (by rfl) (by rfl) ?_; apply Exists.intro; refine ⟨fun w1 hS1 => ?_, ?_⟩; (focus ((obtain ⟨g0, g1, g2, g3, g4⟩ := hS1); go_simp; with_reducible rfl)); simp only [Act.put, List.setIfInBounds_toArray, List.set_cons_zero, List.set_cons_succ]))
        refine TxtBL.value (fun u => ∃ rc : Nat, u = .int .u64 (rc : Int) ∧ rc < 2 ^ n) (fun u w' => ∃ (rc : Nat) (st : Nat → Nat), u = .int .u64 (rc : Int) ∧ CkS n l gB gO 2 root 1 A OO c p gS st rc w' ∧ VPost n 2 (attQ l) OO root (fun _ => 0) st true ∧ Mt p gS w w') (by rfl) (by rfl) ⟨.int .u64 0, 0, rfl, Nat.two_pow_pos n⟩ (fun w1 hS1 hJ1 => ?_) ?_
        · obtain ⟨b, st, rc, hb, hc, hp, hm⟩ := hJ1
          injection hb with hb; subst hb
          have g7 : w1.cell? ⟨p, 7, none⟩ = some (.int .u64 (rc : Int)) := hc.hd.cell 7
          exact ⟨.int .u64 (rc : Int), w1, by go_simp, hS1, ⟨rc, rfl, hc.rcl⟩, rc, st, rfl, hc, hp, hm⟩
        rintro _ ⟨rc, rfl, hrc⟩
        simp only [Act.put, List.setIfInBounds_toArray, List.set_cons_zero, List.set_cons_succ]
        repeat (first
          | (refine TxtBL.skip (by rfl) ?_; simp only [Act.put, List.setIfInBounds_toArray, List.set_cons_zero, List.set_cons_succ])
          | (refine TxtBL.take (by rfl) (by rfl) ?_; apply Exists.intro; refine ⟨fun w1 hS1 => ?_, ?_⟩; (focus ((obtain ⟨g0, g1, g2, g3, g4⟩ := hS1); go_simp; with_reducible rfl)); simp only [Act.put, List.setIfInBounds_toArray, List.set_cons_zero, List.set_cons_succ])
          | (refine TxtBL.takeE (by rfl) (by rfl) ?_; apply Exists.intro; refine ⟨fun w1 hS1 => ?_, ?_⟩; (focus ((obtain ⟨g0, g1, g2, g3, g4⟩ := hS1); go_simp; with_reducible rfl)); simp only [Act.put, List.setIfInBounds_toArray, List.set_cons_zero, List.set_cons_succ]))
        refine TxtBL.call (f := 117) (args := #[.agg #[.int .u64 ((allN n : Nat) : Int), .slice (some ⟨gB, 0, none⟩) n n, .slice (some ⟨gO, 0, none⟩) n n], .int .u64 (rc : Int)]) (fun u => u = .bool (freeS n (attQ l) rc)) (fun u w' => ∃ (st : Nat → Nat), CkS n l gB gO 2 root 1 A OO c p gS st rc w' ∧ VPost n 2 (attQ l) OO root (fun _ => 0) st true ∧ Mt p gS w w') (by rfl) (by rfl) ⟨_, rfl⟩ (fun w1 hS1 hJ1 => by go_simp) (fun w1 hS1 hJ1 => ?_) ?_
        · obtain ⟨rc', st, hb, hc, hp, hm⟩ := hJ1
          injection hb with _ hb
          have hb : rc = rc' := by omega
          subst hb
          refine (netFreeS_any Hv.out hrc (some ⟨gB, 0, none⟩) (some ⟨gO, 0, none⟩) w1 hc.tab hc.nr).mono ?_
          rintro e w' ⟨rfl, hb⟩
          exact ⟨_, rfl, WnS.of (hc.below hb), rfl, st, hc.below hb, hp, hm.trans (Mt.of_below hb)⟩
        rintro _ rfl
        simp only [Act.put, List.setIfInBounds_toArray, List.set_cons_zero, List.set_cons_succ]
        repeat (first
          | (refine TxtBL.skip (by rfl) ?_; simp only [Act.put, List.setIfInBounds_toArray, List.set_cons_zero, List.set_cons_succ])
          | (refine TxtBL.take (by rfl) (by rfl) ?_; apply Exists.intro; refine ⟨fun w1 hS1 => ?_, ?_⟩; (focus ((obtain ⟨g0, g1, g2, g3, g4⟩ := hS1); go_simp; with_reducible rfl)); simp only [Act.put, List.setIfInBounds_toArray, List.set_cons_zero, List.set_cons_succ])
          | (refine TxtBL.takeE (by rfl) (by rfl) ?_; apply Exists.intro; refine ⟨fun w1 hS1 => ?_, ?_⟩; (focus ((obtain ⟨g0, g1, g2, g3, g4⟩ := hS1); go_simp; with_reducible rfl)); simp only [Act.put, List.setIfInBounds_toArray, List.set_cons_zero, List.set_cons_succ]))
        refine TxtBL.nil (fun W3 hS3 hJ3 => ?_)
        obtain ⟨st, hc, hp, hm⟩ := hJ3
        have Hc := Lib.hid hc; have Hp := Lib.hid hp; have Hm := Lib.hid hm
        clear hc hp hm hS3
        go_wp2_with fail
        go_ret
        exact ⟨_, rfl, ⟨fun _ => ⟨true, st, rc, Hp.out, Hc.out.rcs, Hc.out.rcl, rfl⟩, fun h => (by cases h), fun h => (by cases h), fun h => (by cases h)⟩, Hm.out⟩
  · rcases hk with rfl | rfl
    · go_enter Tryd.func88, Tryd.ntmps88
      go_wp2_with fail
      refine Hre.out.mono ?_
      rintro e w1 ⟨b, rc, rfl, -, hp, hmt⟩
      go_wp2_with fail
      go_ret
      exact ⟨b, rfl, ⟨fun h => (by cases h), fun _ _ => ⟨rc, hp⟩, fun _ h => (by cases h), fun _ h => (by cases h)⟩, hmt.one⟩
    · by_cases hz : OO.length = 0
      · rw [hz] at c6
        go_enter Tryd.func88, Tryd.ntmps88
        go_wp2_with fail
        refine Hsz.out.mono ?_
        rintro e w1 ⟨rfl, rfl⟩
        go_wp2_with fail
        refine wp_region_textB [9, 10] (fun w' => Below w.heap.size w w') (fun _ => True) (by kernel_rfl) (by kernel_rfl) (by kernel_rfl) (Below.refl _ _).drew trivial ?_
        repeat (first
          | (refine TxtBL.skip (by rfl) ?_; simp only [Act.put, List.setIfInBounds_toArray, List.set_cons_zero, List.set_cons_succ])
          | (refine TxtBL.take (by rfl) (by rfl) ?_; apply Exists.intro; refine ⟨fun w1 hS1 => ?_, ?_⟩; (focus ((have g0 := (hS1.cell (lt_of_cell c0)).trans c0); (have g1 := (hS1.cell (lt_of_cell c1)).trans c1); (have g2 := (hS1.cell (lt_of_cell c2)).trans c2); (have g4 := (hS1.cell (lt_of_cell c4)).trans c4); go_simp; with_reducible rfl)); simp only [Act.put, List.setIfInBounds_toArray, List.set_cons_zero, List.set_cons_succ])
          | (refine TxtBL.takeE (by rfl) (by rfl) ?_; apply Exists.intro; refine ⟨fun w1 hS1 => ?_, ?_⟩; (focus ((have g0 := (hS1.cell (lt_of_cell c0)).trans c0); (have g1 := (hS1.cell (lt_of_cell c1)).trans c1); (have g2 := (hS1.cell (lt_of_cell c2)).trans c2); (have g4 := (hS1.cell (lt_of_cell c4)).trans c4); go_simp; with_reducible rfl)); simp only [Act.put, List.setIfInBounds_toArray, List.set_cons_zero, List.set_cons_succ]))
        refine TxtBL.call (f := 65) (args := #[.int .u64 0, .int .i64 (root : Int)]) (fun u => u = .int .u64 ((1 <<< root : Nat) : Int)) (fun _ _ => True) (by rfl) (by rfl) ⟨_, rfl⟩ (fun w1 hS1 hJ1 => by go_simp) (fun w2 hS2 hJ1 => ?_) ?_
        · refine (Hw0.out w2).mono ?_
          rintro e w' ⟨rfl, rfl⟩
          exact ⟨_, rfl, hS2, rfl, trivial⟩
        rintro _ rfl
        simp only [Act.put, List.setIfInBounds_toArray, List.set_cons_zero, List.set_cons_succ]
        repeat (first
          | (refine TxtBL.skip (by rfl) ?_; simp only [Act.put, List.setIfInBounds_toArray, List.set_cons_zero, List.set_cons_succ])
          | (refine TxtBL.take (by rfl) (by rfl) ?_; apply Exists.intro; refine ⟨fun w1 hS1 => ?_, ?_⟩; (focus (skip; go_simp; with_reducible rfl)); simp only [Act.put, List.setIfInBounds_toArray, List.set_cons_zero, List.set_cons_succ])
          | (refine TxtBL.takeE (by rfl) (by rfl) ?_; apply Exists.intro; refine ⟨fun w1 hS1 => ?_, ?_⟩; (focus (skip; go_simp; with_reducible rfl)); simp only [Act.put, List.setIfInBounds_toArray, List.set_cons_zero, List.set_cons_succ]))
        refine TxtBL.call (f := 77) (args := #[.agg #[.int .u64 ((allN n : Nat) : Int), .slice (some ⟨gB, 0, none⟩) n n, .slice (some ⟨gO, 0, none⟩) n n], .int .u64 ((1 <<< root : Nat) : Int)]) (fun u => u = .tuple #[.int .u64 (((srS n (attQ l) (n + 1) (1 <<< root)).getD 0 : Nat) : Int), .bool (srS n (attQ l) (n + 1) (1 <<< root)).isSome]) (fun _ _ => True) (by rfl) (by rfl) ⟨_, rfl⟩ (fun w1 hS1 hJ1 => by go_simp) (fun w2 hS2 hJ1 => ?_) ?_
        · refine (Hse.out w2 hS2).mono ?_
          rintro e w' ⟨rfl, hb⟩
          exact ⟨_, rfl, hS2.trans (hb.mono hS2.size), rfl, trivial⟩
        rintro _ rfl
        simp only [Act.put, List.setIfInBounds_toArray, List.set_cons_zero, List.set_cons_succ]
        repeat (first
          | (refine TxtBL.skip (by rfl) ?_; simp only [Act.put, List.setIfInBounds_toArray, List.set_cons_zero, List.set_cons_succ])
          | (refine TxtBL.take (by rfl) (by rfl) ?_; apply Exists.intro; refine ⟨fun w1 hS1 => ?_, ?_⟩; (focus (skip; go_simp; with_reducible rfl)); simp only [Act.put, List.setIfInBounds_toArray, List.set_cons_zero, List.set_cons_succ])
          | (refine TxtBL.takeE (by rfl) (by rfl) ?_; apply Exists.intro; refine ⟨fun w1 hS1 => ?_, ?_⟩; (focus (skip; go_simp; with_reducible rfl)); simp only [Act.put, List.setIfInBounds_toArray, List.set_cons_zero, List.set_cons_succ]))
        refine TxtBL.nil (fun W3 hS3 _ => ?_)
        go_wp2_with fail
        go_ret
        exact ⟨_, rfl, ⟨fun h => (by cases h), fun _ h => (by cases h), fun _ _ _ => by cases srS n (attQ l) (n + 1) (1 <<< root) <;> rfl, fun _ _ h => absurd hz h⟩, Mt.of_below hS3⟩
      · have hzp : decide ((0 : Int) < (OO.length : Int)) = true := by rw [decide_eq_true_iff]; omega
        go_enter Tryd.func88, Tryd.ntmps88
        go_wp2_with fail
        refine Hsz.out.mono ?_
        rintro e w1 ⟨rfl, rfl⟩
        go_wp2_with fail
        go_ret
        exact ⟨false, rfl, ⟨fun h => (by cases h), fun _ h => (by cases h), fun _ _ h => absurd h hz, fun _ _ _ => rfl⟩, Mt.refl _ _ _⟩
end Go.Proofs.YtncimnfhfomddaaDoor

/- Package game: Check. -/
namespace Go.Proofs.YtncimnfhfomddaaDoor
open Go.ChangeShapes Go.WideShapes Go.ChangeAt Go.RowKit

theorem gCheck1_any (n i : Int) (q : Nat) (w : World) (h : w.cell? ⟨q, 0, none⟩ = some (.int .i64 n)) (h0 : 0 ≤ i) (h1 : i < n) : Calls Tryd.prog 87 #[.int .i64 i, .pointer (some ⟨q, 0, none⟩)] w (Ret (.bool true) w) := by
  go_enter Tryd.func87, Tryd.ntmps87
  go_wp2_with fail
  go_ret
  exact ⟨rfl, rfl⟩
/-- what stands while Check makes the checker: the net's rows, the row of states -/
structure JC (n : Nat) (l : List (Int × Int)) (B : Nat) (a : Option (Nat × Nat)) (b : Option Nat) (w : World) : Prop where
  fa : ∀ q, a = some q → NetR w n l (some ⟨q.1, 0, none⟩) (some ⟨q.2, 0, none⟩) ∧ B ≤ q.1 ∧ B ≤ q.2 ∧ q.1 < w.heap.size ∧ q.2 < w.heap.size
  fb : ∀ g, b = some g → B ≤ g ∧ w.rowIs g 3 n (fun _ => .int .i64 0)
  ab : ∀ q g, a = some q → b = some g → q.1 ≠ g ∧ q.2 ≠ g
section
variable {n : Nat} {l : List (Int × Int)} {B : Nat} {a : Option (Nat × Nat)} {b : Option Nat} {w : World}
theorem JC.start : JC n l B none none w := ⟨fun _ h => (by cases h), fun _ h => (by cases h), fun _ _ h => (by cases h)⟩
theorem JC.mS (h : JC n l B a none w) (hB : B ≤ w.heap.size) : JC n l B a (some w.heap.size) (w.alloc (.cells (madeCells #[.int .i64 0] n) 3)) :=
  ⟨fun q e => ⟨(h.fa q e).1.below (newB _ _), (h.fa q e).2.1, (h.fa q e).2.2.1, by have := (h.fa q e).2.2.2.1; rw [World.size_alloc]; omega, by have := (h.fa q e).2.2.2.2; rw [World.size_alloc]; omega⟩, fun g e => by injection e with e; subst e; exact ⟨hB, World.rowIs_made _ _ _ _⟩, fun q g e1 e2 => by injection e2 with e2; subst e2; exact ⟨Nat.ne_of_lt (h.fa q e1).2.2.2.1, Nat.ne_of_lt (h.fa q e1).2.2.2.2⟩⟩
theorem JC.mN {w' : World} {gB gO : Nat} (h : JC n l B none b w) (hB : B ≤ w.heap.size) (h1 : w.heap.size ≤ gB) (h2 : w.heap.size ≤ gO) (h3 : NetR w' n l (some ⟨gB, 0, none⟩) (some ⟨gO, 0, none⟩)) (h4 : gB < w'.heap.size) (h5 : gO < w'.heap.size) (hb : Below w.heap.size w w') : JC n l B (some (gB, gO)) b w' :=
  ⟨fun q e => by injection e with e; subst e; exact ⟨h3, Nat.le_trans hB h1, Nat.le_trans hB h2, h4, h5⟩, fun g e => ⟨(h.fb g e).1, rowIs_new (h.fb g e).2 hb⟩, fun q g e1 e2 => by injection e1 with e1; subst e1; have := (h.fb g e2).2.lt; simp only; omega⟩
end
theorem CkS.make {n : Nat} {l : List (Int × Int)} {k root by_ gB gO gS : Nat} {A : Option Addr} {OO : List (Nat × Nat)} {c : Nat} {w0 w1 : World} (hr : RP w0 A (OO.map toI)) (hT : Tab w0) (hb : Below w0.heap.size w0 w1) (hJ : JC n l w0.heap.size (some (gB, gO)) (some gS) w1) :
    CkS n l gB gO k root by_ A OO c w1.heap.size gS (fun _ => 0) 0 (w1.alloc (.cells #[.int .u64 ((allN n : Nat) : Int), .slice (some ⟨gB, 0, none⟩) n n, .slice (some ⟨gO, 0, none⟩) n n, .int .i64 (k : Int), .int .i64 (root : Int), .int .i64 (by_ : Int), .slice A OO.length c, .int .u64 0, .slice (some ⟨gS, 0, none⟩) n n] 122)) :=
  have ht : 0 < w0.heap.size := lt_of_cell (hT 0 (by decide))
  have hg := hJ.fb gS rfl
  have hf := hJ.fa (gB, gO) rfl
  have hs := hb.size
  { hd := Blk.new _ _ _
    row := (World.rowIs.alloc hg.2 _).congr fun _ _ => rfl
    nr := hf.1.below (newB _ _)
    rp := (hr.below hb).below (newB _ _)
    tab := (hT.below hb).below (newB _ _)
    ne := Nat.ne_of_lt hg.2.lt
    nb := ⟨⟨Nat.ne_of_lt hf.2.2.2.1, (hJ.ab _ _ rfl rfl).1⟩, Nat.ne_of_lt hf.2.2.2.2, (hJ.ab _ _ rfl rfl).2⟩
    na := fun hne b o e => by have := hr.lt_new hne b o e; have := hg.1; omega
    nt := by have := hg.1; omega
    rcs := fun v => by rw [Nat.zero_testBit]; rfl
    rcl := Nat.two_pow_pos n
    le := fun _ => Nat.zero_le _ }
def RetGc (n : Nat) (l : List (Int × Int)) (k by_ root : Nat) (OO : List (Nat × Nat)) (w : World) : Ending → World → Prop := fun e w' => ∃ b : Bool, e = .returned (.int .i64 (if b then 0 else 11)) ∧ WPost n l k by_ root OO b ∧ Below w.heap.size w w'

set_option maxRecDepth 100000 in
set_option maxHeartbeats 16000000 in
theorem gCheckP_any (A : Option Addr) {n : Nat} {l : List (Int × Int)} (c : Nat) (hv : Vld n l) (hn10 : n ≤ 10) (hn0 : 0 < n) (k root : Nat) (hk : k = 1 ∨ k = 2) (hroot : root < n) (A2 : Option Addr) (OO : List (Nat × Nat)) (c2 : Nat) (ho : ∀ q ∈ OO, q.1 < n ∧ q.2 < n) (hasc : AscR OO) (hlo : OO.length ≤ 100000) (w : World) (hr : RP w A l) (hr2 : RP w A2 (OO.map toI)) (hT : Tab w) :
    Calls Tryd.prog 38 #[.agg #[.int .i64 (n : Int), .slice A l.length c], .agg #[.int .i64 (k : Int), .int .i64 (root : Int), .int .i64 1, .slice A2 OO.length c2]] w (RetGc n l k 1 root OO w) := by
  have hmf : ∀ fn first cap w, (Instr.makeFunc fn first cap).run Tryd.prog w = .ok (.func fn first cap) w := fun _ _ _ _ => rfl
  have hval := hv.valE
  have hmk := run_make_row' (P := Tryd.prog) 25 3 (.int .i64 0) 8 Tryd.underlying25 info_int rfl .i64 .i64 n (by omega) (by omega)
  have hex : ∀ w, Calls Tryd.prog 75 #[.int .i64 (k : Int)] w (Ret (.bool true) w) := fun w => by
    have := gExists_any (k : Int) w
    rcases hk with rfl | rfl <;> exact this
  have hri : (0 : Int) ≤ (root : Int) := by omega
  have hrn : (root : Int) < (n : Int) := by omega
  have hlen := hv.1.2.1
  have Hk := Lib.hid hk; have Hv := Lib.hid hv; have Hval := Lib.hid hval; have Hmk := Lib.hid hmk; have Hex := Lib.hid hex; have Ho := Lib.hid ho; have Hasc := Lib.hid hasc
  clear hv hval hmk hex ho hasc hk
  go_enter Tryd.func38, Tryd.ntmps38
  go_wp2_with fail
  obtain ⟨W0, hW, k0, k1, hb0, hs0⟩ : ∃ W0, (w.alloc (.cells #[.int .i64 (n : Int), .slice A l.length c] 24)).alloc (.cells #[.int .i64 (k : Int), .int .i64 (root : Int), .int .i64 1, .slice A2 OO.length c2] 64) = W0 ∧ Blk W0 w.heap.size 24 #[.int .i64 (n : Int), .slice A l.length c] ∧ Blk W0 (w.heap.size + 1) 64 #[.int .i64 (k : Int), .int .i64 (root : Int), .int .i64 1, .slice A2 OO.length c2] ∧ Below w.heap.size w W0 ∧ W0.heap.size = w.heap.size + 2 :=
    ⟨_, rfl, (Blk.new _ _ _).alloc _, by have := Blk.new (w.alloc (.cells #[.int .i64 (n : Int), .slice A l.length c] 24)) 64 #[.int .i64 (k : Int), .int .i64 (root : Int), .int .i64 1, .slice A2 OO.length c2]; rw [World.size_alloc] at this; exact this, ((Below.refl _ _).alloc (Nat.le_refl _) _).alloc (by simp) _, by simp⟩
  rw [hW]
  have hr0 := hr.below hb0
  have hr20 := hr2.below hb0
  have hT0 := hT.below hb0
  clear hW hr hT hr2
  refine (gValidate_any A n l c W0 hr0 hlen).mono ?_
  rintro e w1 ⟨rfl, hb1⟩
  rw [Hval.out]
  have k1' := k0.below hb1 k0.lt
  obtain ⟨c0, c1, -, -⟩ := k1'.two
  have k2' := k1.below hb1 k1.lt
  have s0 : w1.cell? ⟨w.heap.size + 1, 0, none⟩ = some (.int .i64 (k : Int)) := k2'.cell 0
  have s1 : w1.cell? ⟨w.heap.size + 1, 1, none⟩ = some (.int .i64 (root : Int)) := k2'.cell 1
  have s2 : w1.cell? ⟨w.heap.size + 1, 2, none⟩ = some (.int .i64 1) := k2'.cell 2
  have s3 : w1.cell? ⟨w.heap.size + 1, 3, none⟩ = some (.slice A2 OO.length c2) := k2'.cell 3
  have hr1 := hr0.below hb1
  have hr21 := hr20.below hb1
  have hT1 := hT0.below hb1
  have hb01 := endB hb0 hb1
  have hgl : w.heap.size + 1 < w1.heap.size := k2'.lt
  generalize hG : w.heap.size = G at *
  clear k0 k1 hr0 hr20 hT0 hb0 hb1 hs0 Hval
  go_wp2_with fail
  refine (Hex.out w1).mono ?_
  rintro e w2 ⟨rfl, rfl⟩
  go_wp2_with fail
  refine (gCheck1_any n root G w1 c0 hri hrn).mono ?_
  rintro e w2 ⟨rfl, rfl⟩
  go_wp2_with fail
  go_loopw [39] (fun t39 wx => ∃ q : Nat, q ≤ OO.length ∧ t39 = .int .i64 (q : Int) ∧ Below w1.heap.size w1 wx) (fun t39 _ => OO.length - (intOf t39).toNat)
  case atStart => exact ⟨0, Nat.zero_le _, rfl, Below.refl _ _⟩
  case round =>
    obtain ⟨q, hq, rfl, hbr⟩ := hrel
    by_cases hqy : q < OO.length
    case neg =>
      have hqe : q = OO.length := by omega
      clear hq
      subst hqe
      obtain ⟨w3, hw3⟩ : ∃ w3, w3 = wr := ⟨_, rfl⟩
      subst hw3
      have d0 := (hbr.cell (lt_of_cell c0)).trans c0; have d1 := (hbr.cell (lt_of_cell c1)).trans c1
      have t0 := (hbr.cell (lt_of_cell s0)).trans s0; have t1 := (hbr.cell (lt_of_cell s1)).trans s1; have t2 := (hbr.cell (lt_of_cell s2)).trans s2; have t3 := (hbr.cell (lt_of_cell s3)).trans s3
      have hr3 := hr1.below hbr; have hr23 := hr21.below hbr; have hT3 := hT1.below hbr
      have hb03 := hb01.trans (hbr.mono (by omega))
      have hgl3 := Nat.lt_of_lt_of_le hgl hbr.size
      clear c0 c1 s0 s1 s2 s3 hr1 hr21 hT1 hb01 hbr hgl k1' k2'
      go_wp2_with fail
      go_loopw [9] (fun t9 wx => ∃ q : Nat, (q = 1 ∨ q ≤ OO.length) ∧ 1 ≤ q ∧ t9 = .int .i64 (q : Int) ∧ Below w3.heap.size w3 wx) (fun t9 _ => OO.length - (intOf t9).toNat)
      case atStart => exact ⟨1, .inl rfl, Nat.le_refl _, rfl, Below.refl _ _⟩
      case round =>
        obtain ⟨q, hq, hq1, rfl, hbr⟩ := hrel
        have v0 := (hbr.cell (lt_of_cell d0)).trans d0; have v1 := (hbr.cell (lt_of_cell d1)).trans d1
        have u0 := (hbr.cell (lt_of_cell t0)).trans t0; have u1 := (hbr.cell (lt_of_cell t1)).trans t1; have u2 := (hbr.cell (lt_of_cell t2)).trans t2; have u3 := (hbr.cell (lt_of_cell t3)).trans t3
        by_cases hqy : q < OO.length
        case pos =>
          have hcmp : OO[q - 1].1 < OO[q].1 := List.pairwise_iff_getElem.1 Hasc.out (q - 1) q (by omega) hqy (by omega)
          obtain ⟨bb, oo, hA2, hc0, hc1⟩ := toI_at (hr23.below hbr) hqy
          subst hA2
          obtain ⟨bb', oo', hA2, hc2, hc3⟩ := toI_at (hr23.below hbr) (k := q - 1) (by omega)
          injection hA2 with hA2; injection hA2 with e1 e2 _; subst e1; subst e2
          obtain ⟨x, hx⟩ : ∃ x, OO[q].1 = x := ⟨_, rfl⟩
          obtain ⟨y, hy⟩ : ∃ y, OO[q - 1].1 = y := ⟨_, rfl⟩
          rw [hx] at hcmp hc0; rw [hy] at hcmp hc2
          obtain ⟨q, rfl⟩ : ∃ q', q = q' + 1 := ⟨q - 1, by omega⟩
          rw [Nat.add_sub_cancel] at hc2
          have hle : decide ((x : Int) ≤ (y : Int)) = false := by rw [decide_eq_false_iff_not]; omega
          have hwr : IntKind.i64.wrap (((q + 1 : Nat) : Int) - 1) = (q : Int) := by rw [IntKind.wrap_i64]; omega
          have hq0 : (0 : Int) ≤ (q : Int) := by omega
          have hql : (q : Int) < (OO.length : Int) := by omega
          have hq2 : (0 : Int) ≤ ((q + 1 : Nat) : Int) := by omega
          have hql2 : ((q + 1 : Nat) : Int) < (OO.length : Int) := by omega
          clear hx hy hc1 hc3 hr3 hr23 hT3
          go_wp2_with fail
          go_quiet (fail)
          go_wp2_with fail
          go_roundw
          case rel => exact ⟨q + 2, .inr (by omega), by omega, by go_num, below_drewN hbr _⟩
          case measure => simp [intOf]; omega
        case neg =>
        go_wp2_with fail
        have hr4 := hr3.below hbr; have hr24 := hr23.below hbr; have hT4 := hT3.below hbr
        have hb04 := hb03.trans (hbr.mono (by omega))
        have hgl4 := Nat.lt_of_lt_of_le hgl3 hbr.size
        obtain ⟨w4, hw4⟩ : ∃ w4, w4 = wr := ⟨_, rfl⟩
        subst hw4
        clear t0 t1 t2 t3 hr3 hr23 hT3 hb03 hgl3 hbr d0 d1 hq hq1
        go_cut [10] (fun t10 wx => ∃ p gB gO gS : Nat, t10 = Value.pointer (some ⟨p, 0, none⟩) ∧ CkS n l gB gO k root 1 A2 OO c2 p gS (fun _ => 0) 0 wx ∧ Below w4.heap.size w4 wx ∧ w4.heap.size ≤ p ∧ w4.heap.size ≤ gS)
        case first =>
          refine wp_region_tree [1, 5, 7] (fun w' => Below w4.heap.size w4 w') (fun w' => JC n l w4.heap.size none none w') 9 [0, 1, 2, 3, 4, 5, 6, 7, 8] (by rfl) (by decide) (by kernel_rfl) (by kernel_rfl) (Below.refl _ _).drew JC.start ?_
          refine TxtT.pure 0 (by rfl) (by rw [List.getElem?_toArray]; rfl) (by rfl) (by as_aux_lemma => kernel_rfl) (by rfl) ?_; apply Exists.intro; refine ⟨fun w1 hS1 => ?_, ?_⟩; (focus ((have g0 := (hS1.cell (lt_of_cell v0)).trans v0; have g1 := (hS1.cell (lt_of_cell v1)).trans v1); go_simp; with_reducible rfl))
          rw [show List.erase [0, 1, 2, 3, 4, 5, 6, 7, 8] 0 = [1, 2, 3, 4, 5, 6, 7, 8] from rfl]; simp only [Act.put, List.setIfInBounds_toArray, List.set_cons_zero, List.set_cons_succ]
          refine TxtT.pure 2 (by rfl) (by rw [List.getElem?_toArray]; rfl) (by rfl) (by as_aux_lemma => kernel_rfl) (by rfl) ?_; apply Exists.intro; refine ⟨fun w1 hS1 => ?_, ?_⟩; (focus ((have g0 := (hS1.cell (lt_of_cell u0)).trans u0; have g1 := (hS1.cell (lt_of_cell u1)).trans u1; have g2 := (hS1.cell (lt_of_cell u2)).trans u2; have g3 := (hS1.cell (lt_of_cell u3)).trans u3); go_simp; with_reducible rfl))
          rw [show List.erase [1, 2, 3, 4, 5, 6, 7, 8] 2 = [1, 3, 4, 5, 6, 7, 8] from rfl]; simp only [Act.put, List.setIfInBounds_toArray, List.set_cons_zero, List.set_cons_succ]
          refine TxtT.pure 3 (by rfl) (by rw [List.getElem?_toArray]; rfl) (by rfl) (by as_aux_lemma => kernel_rfl) (by rfl) ?_; apply Exists.intro; refine ⟨fun w1 hS1 => ?_, ?_⟩; (focus (skip; go_simp; with_reducible rfl))
          rw [show List.erase [1, 3, 4, 5, 6, 7, 8] 3 = [1, 4, 5, 6, 7, 8] from rfl]; simp only [Act.put, List.setIfInBounds_toArray, List.set_cons_zero, List.set_cons_succ]
          refine TxtT.pure 4 (by rfl) (by rw [List.getElem?_toArray]; rfl) (by rfl) (by as_aux_lemma => kernel_rfl) (by rfl) ?_; apply Exists.intro; refine ⟨fun w1 hS1 => ?_, ?_⟩; (focus ((have g0 := (hS1.cell (lt_of_cell v0)).trans v0); go_simp; with_reducible rfl))
          rw [show List.erase [1, 4, 5, 6, 7, 8] 4 = [1, 5, 6, 7, 8] from rfl]; simp only [Act.put, List.setIfInBounds_toArray, List.set_cons_zero, List.set_cons_succ]
          refine TxtT.two 1 5 (by as_aux_lemma => kernel_rfl) (by rw [List.getElem?_toArray]; rfl) (by rw [List.getElem?_toArray]; rfl) (by rfl) (by rfl) (by rfl) (by rfl) (fun v => ∃ gB gO : Nat, v = .agg #[.int .u64 ((allN n : Nat) : Int), .slice (some ⟨gB, 0, none⟩) n n, .slice (some ⟨gO, 0, none⟩) n n]) (fun v w' => ∃ gB gO : Nat, v = .agg #[.int .u64 ((allN n : Nat) : Int), .slice (some ⟨gB, 0, none⟩) n n, .slice (some ⟨gO, 0, none⟩) n n] ∧ JC n l w4.heap.size (some (gB, gO)) none w') (fun v => ∃ g, v = Value.slice (some ⟨g, 0, none⟩) n n) (fun v w' => ∃ g, v = Value.slice (some ⟨g, 0, none⟩) n n ∧ JC n l w4.heap.size none (some g) w') (fun w1 hS1 hJ1 => ?_) (fun w1 hS1 hJ1 => ?_) ?_ ?_
          · refine Eff.call (f := 63) (args := #[.agg #[.int .i64 (n : Int), .slice A l.length c]]) (by go_simp) ((netNew_any A n l c w1 (hr4.below hS1) Hv.out.1).mono ?_)
            rintro e w' ⟨gB, gO, rfl, hgB, hgO, hrB, hrO, hb⟩
            have hlB : gB < w'.heap.size := by obtain ⟨b, o, e, h⟩ := hrB 0 (by rw [byL_length]; omega); injection e with e; injection e with e _ _; rw [e]; exact lt_of_cell h
            have hlO : gO < w'.heap.size := by obtain ⟨b, o, e, h⟩ := hrO 0 (by rw [outL_length]; omega); injection e with e; injection e with e _ _; rw [e]; exact lt_of_cell h
            exact ⟨_, rfl, hS1.trans (hb.mono hS1.size), ⟨_, _, rfl⟩, _, _, rfl, hJ1.mN hS1.size hgB hgO ⟨hrB, hrO⟩ hlB hlO hb⟩
          · have hmk := Hmk.out
            exact Eff.value (w' := w1.alloc (.cells (madeCells #[.int .i64 0] n) 3)) (v := .slice (some ⟨w1.heap.size, 0, none⟩) n n) (by go_simp) ⟨hS1.trans ((newB w1 _).mono hS1.size), ⟨_, rfl⟩, _, rfl, hJ1.mS hS1.size⟩
          · rintro _ ⟨gB, gO, rfl⟩
            rw [show List.erase [1, 5, 6, 7, 8] 1 = [5, 6, 7, 8] from rfl]; simp only [Act.put, List.setIfInBounds_toArray, List.set_cons_zero, List.set_cons_succ]
            refine TxtT.weakJ (J2 := (fun w' => JC n l w4.heap.size (some (gB, gO)) none w')) (fun w1 h => by obtain ⟨g, g', hg, h⟩ := h; injection hg with hg; injection hg with hg; injection hg with _ hg; injection hg with h1 h2; injection h1 with h1 _ _; injection h1 with h1; injection h1 with h1 _ _; injection h2 with h2 _; injection h2 with h2 _ _; injection h2 with h2; injection h2 with h2 _ _; subst h1; subst h2; exact h) ?_
            refine TxtT.one 5 (by as_aux_lemma => kernel_rfl) (by rw [List.getElem?_toArray]; rfl) (by rfl) (by rfl) (fun v => ∃ g, v = Value.slice (some ⟨g, 0, none⟩) n n) (fun v w' => ∃ g, v = Value.slice (some ⟨g, 0, none⟩) n n ∧ JC n l w4.heap.size (some (gB, gO)) (some g) w') (fun w1 hS1 hJ1 => ?_) ?_
            · have hmk := Hmk.out
              exact Eff.value (w' := w1.alloc (.cells (madeCells #[.int .i64 0] n) 3)) (v := .slice (some ⟨w1.heap.size, 0, none⟩) n n) (by go_simp) ⟨hS1.trans ((newB w1 _).mono hS1.size), ⟨_, rfl⟩, _, rfl, hJ1.mS hS1.size⟩
            rintro _ ⟨gS, rfl⟩
            rw [show List.erase [5, 6, 7, 8] 5 = [6, 7, 8] from rfl]; simp only [Act.put, List.setIfInBounds_toArray, List.set_cons_zero, List.set_cons_succ]
            refine TxtT.weakJ (J2 := (fun w' => JC n l w4.heap.size (some (gB, gO)) (some gS) w')) (fun w1 h => by obtain ⟨g, hg, h⟩ := h; injection hg with hg; injection hg with hg; injection hg with hg _ _; subst hg; exact h) ?_
            refine TxtT.pure 6 (by rfl) (by rw [List.getElem?_toArray]; rfl) (by rfl) (by as_aux_lemma => kernel_rfl) (by rfl) ?_; apply Exists.intro; refine ⟨fun w1 hS1 => ?_, ?_⟩; (focus (skip; go_simp; with_reducible rfl))
            rw [show List.erase [6, 7, 8] 6 = [7, 8] from rfl]; simp only [Act.put, List.setIfInBounds_toArray, List.set_cons_zero, List.set_cons_succ]
            refine TxtT.one 7 (by as_aux_lemma => kernel_rfl) (by rw [List.getElem?_toArray]; rfl) (by rfl) (by rfl) (fun v => ∃ q, v = Value.pointer (some ⟨q, 0, none⟩)) (fun v w' => ∃ q, v = Value.pointer (some ⟨q, 0, none⟩) ∧ CkS n l gB gO k root 1 A2 OO c2 q gS (fun _ => 0) 0 w' ∧ w4.heap.size ≤ q ∧ w4.heap.size ≤ gS) (fun w1 hS1 hJ1 => ?_) ?_
            · exact Eff.value (w' := w1.alloc (.cells #[.int .u64 ((allN n : Nat) : Int), .slice (some ⟨gB, 0, none⟩) n n, .slice (some ⟨gO, 0, none⟩) n n, .int .i64 (k : Int), .int .i64 (root : Int), .int .i64 1, .slice A2 OO.length c2, .int .u64 0, .slice (some ⟨gS, 0, none⟩) n n] 122)) (v := .pointer (some ⟨w1.heap.size, 0, none⟩)) (by go_simp) ⟨hS1.trans ((newB w1 _).mono hS1.size), ⟨_, rfl⟩, _, rfl, CkS.make hr24 hT4 hS1 hJ1, hS1.size, (hJ1.fb gS rfl).1⟩
            rintro _ ⟨p, rfl⟩
            rw [show List.erase [7, 8] 7 = [8] from rfl]; simp only [Act.put, List.setIfInBounds_toArray, List.set_cons_zero, List.set_cons_succ]
            refine TxtT.pure 8 (by rfl) (by rw [List.getElem?_toArray]; rfl) (by rfl) (by as_aux_lemma => kernel_rfl) (by rfl) ?_; apply Exists.intro; refine ⟨fun w1 hS1 => ?_, ?_⟩; (focus (skip; go_simp; with_reducible rfl))
            rw [show List.erase [8] 8 = [] from rfl]; simp only [Act.put, List.setIfInBounds_toArray, List.set_cons_zero, List.set_cons_succ]
            refine ⟨rfl, fun w1 hS1 hJ1 => ?_⟩
            obtain ⟨q, hq, h1, h2, h3⟩ := hJ1
            injection hq with hq; injection hq with hq; injection hq with hq _ _; subst hq
            go_wp2_with fail
            go_meet
            exact ⟨p, gB, gO, gS, rfl, h1, hS1, h2, h3⟩
          · rintro _ ⟨gS, rfl⟩
            rw [show List.erase [1, 5, 6, 7, 8] 5 = [1, 6, 7, 8] from rfl]; simp only [Act.put, List.setIfInBounds_toArray, List.set_cons_zero, List.set_cons_succ]
            refine TxtT.weakJ (J2 := (fun w' => JC n l w4.heap.size none (some gS) w')) (fun w1 h => by obtain ⟨g, hg, h⟩ := h; injection hg with hg; injection hg with hg; injection hg with hg _ _; subst hg; exact h) ?_
            refine TxtT.one 1 (by as_aux_lemma => kernel_rfl) (by rw [List.getElem?_toArray]; rfl) (by rfl) (by rfl) (fun v => ∃ gB gO : Nat, v = .agg #[.int .u64 ((allN n : Nat) : Int), .slice (some ⟨gB, 0, none⟩) n n, .slice (some ⟨gO, 0, none⟩) n n]) (fun v w' => ∃ gB gO : Nat, v = .agg #[.int .u64 ((allN n : Nat) : Int), .slice (some ⟨gB, 0, none⟩) n n, .slice (some ⟨gO, 0, none⟩) n n] ∧ JC n l w4.heap.size (some (gB, gO)) (some gS) w') (fun w1 hS1 hJ1 => ?_) ?_
            · refine Eff.call (f := 63) (args := #[.agg #[.int .i64 (n : Int), .slice A l.length c]]) (by go_simp) ((netNew_any A n l c w1 (hr4.below hS1) Hv.out.1).mono ?_)
              rintro e w' ⟨gB, gO, rfl, hgB, hgO, hrB, hrO, hb⟩
              have hlB : gB < w'.heap.size := by obtain ⟨b, o, e, h⟩ := hrB 0 (by rw [byL_length]; omega); injection e with e; injection e with e _ _; rw [e]; exact lt_of_cell h
              have hlO : gO < w'.heap.size := by obtain ⟨b, o, e, h⟩ := hrO 0 (by rw [outL_length]; omega); injection e with e; injection e with e _ _; rw [e]; exact lt_of_cell h
              exact ⟨_, rfl, hS1.trans (hb.mono hS1.size), ⟨_, _, rfl⟩, _, _, rfl, hJ1.mN hS1.size hgB hgO ⟨hrB, hrO⟩ hlB hlO hb⟩
            rintro _ ⟨gB, gO, rfl⟩
            rw [show List.erase [1, 6, 7, 8] 1 = [6, 7, 8] from rfl]; simp only [Act.put, List.setIfInBounds_toArray, List.set_cons_zero, List.set_cons_succ]
            refine TxtT.weakJ (J2 := (fun w' => JC n l w4.heap.size (some (gB, gO)) (some gS) w')) (fun w1 h => by obtain ⟨g, g', hg, h⟩ := h; injection hg with hg; injection hg with hg; injection hg with _ hg; injection hg with h1 h2; injection h1 with h1 _ _; injection h1 with h1; injection h1 with h1 _ _; injection h2 with h2 _; injection h2 with h2 _ _; injection h2 with h2; injection h2 with h2 _ _; subst h1; subst h2; exact h) ?_
            refine TxtT.pure 6 (by rfl) (by rw [List.getElem?_toArray]; rfl) (by rfl) (by as_aux_lemma => kernel_rfl) (by rfl) ?_; apply Exists.intro; refine ⟨fun w1 hS1 => ?_, ?_⟩; (focus (skip; go_simp; with_reducible rfl))
            rw [show List.erase [6, 7, 8] 6 = [7, 8] from rfl]; simp only [Act.put, List.setIfInBounds_toArray, List.set_cons_zero, List.set_cons_succ]
            refine TxtT.one 7 (by as_aux_lemma => kernel_rfl) (by rw [List.getElem?_toArray]; rfl) (by rfl) (by rfl) (fun v => ∃ q, v = Value.pointer (some ⟨q, 0, none⟩)) (fun v w' => ∃ q, v = Value.pointer (some ⟨q, 0, none⟩) ∧ CkS n l gB gO k root 1 A2 OO c2 q gS (fun _ => 0) 0 w' ∧ w4.heap.size ≤ q ∧ w4.heap.size ≤ gS) (fun w1 hS1 hJ1 => ?_) ?_
            · exact Eff.value (w' := w1.alloc (.cells #[.int .u64 ((allN n : Nat) : Int), .slice (some ⟨gB, 0, none⟩) n n, .slice (some ⟨gO, 0, none⟩) n n, .int .i64 (k : Int), .int .i64 (root : Int), .int .i64 1, .slice A2 OO.length c2, .int .u64 0, .slice (some ⟨gS, 0, none⟩) n n] 122)) (v := .pointer (some ⟨w1.heap.size, 0, none⟩)) (by go_simp) ⟨hS1.trans ((newB w1 _).mono hS1.size), ⟨_, rfl⟩, _, rfl, CkS.make hr24 hT4 hS1 hJ1, hS1.size, (hJ1.fb gS rfl).1⟩
            rintro _ ⟨p, rfl⟩
            rw [show List.erase [7, 8] 7 = [8] from rfl]; simp only [Act.put, List.setIfInBounds_toArray, List.set_cons_zero, List.set_cons_succ]
            refine TxtT.pure 8 (by rfl) (by rw [List.getElem?_toArray]; rfl) (by rfl) (by as_aux_lemma => kernel_rfl) (by rfl) ?_; apply Exists.intro; refine ⟨fun w1 hS1 => ?_, ?_⟩; (focus (skip; go_simp; with_reducible rfl))
            rw [show List.erase [8] 8 = [] from rfl]; simp only [Act.put, List.setIfInBounds_toArray, List.set_cons_zero, List.set_cons_succ]
            refine ⟨rfl, fun w1 hS1 hJ1 => ?_⟩
            obtain ⟨q, hq, h1, h2, h3⟩ := hJ1
            injection hq with hq; injection hq with hq; injection hq with hq _ _; subst hq
            go_wp2_with fail
            go_meet
            exact ⟨p, gB, gO, gS, rfl, h1, hS1, h2, h3⟩
        obtain ⟨p, gB, gO, gS, rfl, hck, hb5, hp5, hg5⟩ := hcut
        have hwin := wins_any Hv.out.1 hn10 gB gO k root 1 A2 OO c2 p gS hroot Hk.out (.inl rfl) Ho.out Hasc.out hlo wc hck
        have Hwin := Lib.hid hwin
        have hb05 := hb04.trans (hb5.mono (by omega))
        have hs5 := hb5.size
        clear hwin hck v0 v1 u0 u1 u2 u3 hr4 hr24 hT4 hb04 hb5
        go_wp2_with fail
        refine Hwin.out.mono ?_
        rintro e w6 ⟨b, rfl, hpost, hmt⟩
        have Hpost := Lib.hid hpost
        have Hbe := Lib.hid (hb05.trans (hmt.below (B := G) (by omega) (by omega) (by omega)))
        clear hpost hmt hb05
        cases b
        · go_wp2_with fail
          go_ret
          exact ⟨false, rfl, Hpost.out, by rw [hG]; exact Hbe.out⟩
        · go_wp2_with fail
          go_ret
          exact ⟨true, rfl, Hpost.out, by rw [hG]; exact Hbe.out⟩
    case pos =>
    have hom := Ho.out _ (List.getElem_mem hqy)
    obtain ⟨bb, oo, hA2, hc0, hc1⟩ := toI_at (hr21.below hbr) hqy
    subst hA2
    obtain ⟨x, hx⟩ : ∃ x, OO[q].1 = x := ⟨_, rfl⟩
    obtain ⟨y, hy⟩ : ∃ y, OO[q].2 = y := ⟨_, rfl⟩
    rw [hx] at hom hc0; rw [hy] at hom hc1
    have hxi : (0 : Int) ≤ (x : Int) := by omega
    have hyi : (0 : Int) ≤ (y : Int) := by omega
    have hxn : (x : Int) < (n : Int) := by omega
    have hyn : (y : Int) < (n : Int) := by omega
    have d0 := (hbr.cell (lt_of_cell c0)).trans c0
    have hbs := hbr.size
    clear hom hx hy hr1 hr21 hT1 k1' k2' s0 s1 s2 s3 c0 c1
    go_wp2_with fail
    obtain ⟨wa, hwa, r0, r1, hba, hsa⟩ := boxed wr 106 (.int .i64 (x : Int)) (.int .i64 (y : Int))
    rw [hwa]
    have e0 := (hba.cell (lt_of_cell d0)).trans d0
    have hbra := endB hbr hba
    clear hwa hba hsa hbr hbs
    refine (gCheck1_any n x G wa e0 hxi hxn).mono ?_
    rintro e w2 ⟨rfl, rfl⟩
    go_wp2_with fail
    refine (gCheck1_any n y G wa e0 hyi hyn).mono ?_
    rintro e w2 ⟨rfl, rfl⟩
    go_wp2_with fail
    go_roundw
    case rel => exact ⟨q + 1, by omega, by go_num, hbra⟩
    case measure => simp [intOf]; omega
end Go.Proofs.YtncimnfhfomddaaDoor

/- Package game: Check of an opponent's strategy. Printed by gen_ck6.py from Ck5. -/
namespace Go.Proofs.YtncimnfhfomddaaDoor
open Go.ChangeShapes Go.WideShapes Go.ChangeAt Go.RowKit

set_option maxRecDepth 100000 in
set_option maxHeartbeats 16000000 in
theorem gCheckO_any (A : Option Addr) {n : Nat} {l : List (Int × Int)} (c : Nat) (hv : Vld n l) (hn10 : n ≤ 10) (hn0 : 0 < n) (k root : Nat) (hk : k = 1 ∨ k = 2) (hroot : root < n) (A2 : Option Addr) (OO : List (Nat × Nat)) (c2 : Nat) (ho : ∀ q ∈ OO, q.1 < n ∧ q.2 < n) (hasc : AscR OO) (hlo : OO.length ≤ 100000) (w : World) (hr : RP w A l) (hr2 : RP w A2 (OO.map toI)) (hT : Tab w) :
    Calls Tryd.prog 38 #[.agg #[.int .i64 (n : Int), .slice A l.length c], .agg #[.int .i64 (k : Int), .int .i64 (root : Int), .int .i64 2, .slice A2 OO.length c2]] w (RetGc n l k 2 root OO w) := by
  have hmf : ∀ fn first cap w, (Instr.makeFunc fn first cap).run Tryd.prog w = .ok (.func fn first cap) w := fun _ _ _ _ => rfl
  have hval := hv.valE
  have hmk := run_make_row' (P := Tryd.prog) 25 3 (.int .i64 0) 8 Tryd.underlying25 info_int rfl .i64 .i64 n (by omega) (by omega)
  have hex : ∀ w, Calls Tryd.prog 75 #[.int .i64 (k : Int)] w (Ret (.bool true) w) := fun w => by
    have := gExists_any (k : Int) w
    rcases hk with rfl | rfl <;> exact this
  have hri : (0 : Int) ≤ (root : Int) := by omega
  have hrn : (root : Int) < (n : Int) := by omega
  have hlen := hv.1.2.1
  have Hk := Lib.hid hk; have Hv := Lib.hid hv; have Hval := Lib.hid hval; have Hmk := Lib.hid hmk; have Hex := Lib.hid hex; have Ho := Lib.hid ho; have Hasc := Lib.hid hasc
  clear hv hval hmk hex ho hasc hk
  go_enter Tryd.func38, Tryd.ntmps38
  go_wp2_with fail
  obtain ⟨W0, hW, k0, k1, hb0, hs0⟩ : ∃ W0, (w.alloc (.cells #[.int .i64 (n : Int), .slice A l.length c] 24)).alloc (.cells #[.int .i64 (k : Int), .int .i64 (root : Int), .int .i64 2, .slice A2 OO.length c2] 64) = W0 ∧ Blk W0 w.heap.size 24 #[.int .i64 (n : Int), .slice A l.length c] ∧ Blk W0 (w.heap.size + 1) 64 #[.int .i64 (k : Int), .int .i64 (root : Int), .int .i64 2, .slice A2 OO.length c2] ∧ Below w.heap.size w W0 ∧ W0.heap.size = w.heap.size + 2 :=
    ⟨_, rfl, (Blk.new _ _ _).alloc _, by have := Blk.new (w.alloc (.cells #[.int .i64 (n : Int), .slice A l.length c] 24)) 64 #[.int .i64 (k : Int), .int .i64 (root : Int), .int .i64 2, .slice A2 OO.length c2]; rw [World.size_alloc] at this; exact this, ((Below.refl _ _).alloc (Nat.le_refl _) _).alloc (by simp) _, by simp⟩
  rw [hW]
  have hr0 := hr.below hb0
  have hr20 := hr2.below hb0
  have hT0 := hT.below hb0
  clear hW hr hT hr2
  refine (gValidate_any A n l c W0 hr0 hlen).mono ?_
  rintro e w1 ⟨rfl, hb1⟩
  rw [Hval.out]
  have k1' := k0.below hb1 k0.lt
  obtain ⟨c0, c1, -, -⟩ := k1'.two
  have k2' := k1.below hb1 k1.lt
  have s0 : w1.cell? ⟨w.heap.size + 1, 0, none⟩ = some (.int .i64 (k : Int)) := k2'.cell 0
  have s1 : w1.cell? ⟨w.heap.size + 1, 1, none⟩ = some (.int .i64 (root : Int)) := k2'.cell 1
  have s2 : w1.cell? ⟨w.heap.size + 1, 2, none⟩ = some (.int .i64 2) := k2'.cell 2
  have s3 : w1.cell? ⟨w.heap.size + 1, 3, none⟩ = some (.slice A2 OO.length c2) := k2'.cell 3
  have hr1 := hr0.below hb1
  have hr21 := hr20.below hb1
  have hT1 := hT0.below hb1
  have hb01 := endB hb0 hb1
  have hgl : w.heap.size + 1 < w1.heap.size := k2'.lt
  generalize hG : w.heap.size = G at *
  clear k0 k1 hr0 hr20 hT0 hb0 hb1 hs0 Hval
  go_wp2_with fail
  refine (Hex.out w1).mono ?_
  rintro e w2 ⟨rfl, rfl⟩
  go_wp2_with fail
  refine (gCheck1_any n root G w1 c0 hri hrn).mono ?_
  rintro e w2 ⟨rfl, rfl⟩
  go_wp2_with fail
  go_loopw [39] (fun t39 wx => ∃ q : Nat, q ≤ OO.length ∧ t39 = .int .i64 (q : Int) ∧ Below w1.heap.size w1 wx) (fun t39 _ => OO.length - (intOf t39).toNat)
  case atStart => exact ⟨0, Nat.zero_le _, rfl, Below.refl _ _⟩
  case round =>
    obtain ⟨q, hq, rfl, hbr⟩ := hrel
    by_cases hqy : q < OO.length
    case neg =>
      have hqe : q = OO.length := by omega
      clear hq
      subst hqe
      obtain ⟨w3, hw3⟩ : ∃ w3, w3 = wr := ⟨_, rfl⟩
      subst hw3
      have d0 := (hbr.cell (lt_of_cell c0)).trans c0; have d1 := (hbr.cell (lt_of_cell c1)).trans c1
      have t0 := (hbr.cell (lt_of_cell s0)).trans s0; have t1 := (hbr.cell (lt_of_cell s1)).trans s1; have t2 := (hbr.cell (lt_of_cell s2)).trans s2; have t3 := (hbr.cell (lt_of_cell s3)).trans s3
      have hr3 := hr1.below hbr; have hr23 := hr21.below hbr; have hT3 := hT1.below hbr
      have hb03 := hb01.trans (hbr.mono (by omega))
      have hgl3 := Nat.lt_of_lt_of_le hgl hbr.size
      clear c0 c1 s0 s1 s2 s3 hr1 hr21 hT1 hb01 hbr hgl k1' k2'
      go_wp2_with fail
      go_loopw [9] (fun t9 wx => ∃ q : Nat, (q = 1 ∨ q ≤ OO.length) ∧ 1 ≤ q ∧ t9 = .int .i64 (q : Int) ∧ Below w3.heap.size w3 wx) (fun t9 _ => OO.length - (intOf t9).toNat)
      case atStart => exact ⟨1, .inl rfl, Nat.le_refl _, rfl, Below.refl _ _⟩
      case round =>
        obtain ⟨q, hq, hq1, rfl, hbr⟩ := hrel
        have v0 := (hbr.cell (lt_of_cell d0)).trans d0; have v1 := (hbr.cell (lt_of_cell d1)).trans d1
        have u0 := (hbr.cell (lt_of_cell t0)).trans t0; have u1 := (hbr.cell (lt_of_cell t1)).trans t1; have u2 := (hbr.cell (lt_of_cell t2)).trans t2; have u3 := (hbr.cell (lt_of_cell t3)).trans t3
        by_cases hqy : q < OO.length
        case pos =>
          have hcmp : OO[q - 1].1 < OO[q].1 := List.pairwise_iff_getElem.1 Hasc.out (q - 1) q (by omega) hqy (by omega)
          obtain ⟨bb, oo, hA2, hc0, hc1⟩ := toI_at (hr23.below hbr) hqy
          subst hA2
          obtain ⟨bb', oo', hA2, hc2, hc3⟩ := toI_at (hr23.below hbr) (k := q - 1) (by omega)
          injection hA2 with hA2; injection hA2 with e1 e2 _; subst e1; subst e2
          obtain ⟨x, hx⟩ : ∃ x, OO[q].1 = x := ⟨_, rfl⟩
          obtain ⟨y, hy⟩ : ∃ y, OO[q - 1].1 = y := ⟨_, rfl⟩
          rw [hx] at hcmp hc0; rw [hy] at hcmp hc2
          obtain ⟨q, rfl⟩ : ∃ q', q = q' + 1 := ⟨q - 1, by omega⟩
          rw [Nat.add_sub_cancel] at hc2
          have hle : decide ((x : Int) ≤ (y : Int)) = false := by rw [decide_eq_false_iff_not]; omega
          have hwr : IntKind.i64.wrap (((q + 1 : Nat) : Int) - 1) = (q : Int) := by rw [IntKind.wrap_i64]; omega
          have hq0 : (0 : Int) ≤ (q : Int) := by omega
          have hql : (q : Int) < (OO.length : Int) := by omega
          have hq2 : (0 : Int) ≤ ((q + 1 : Nat) : Int) := by omega
          have hql2 : ((q + 1 : Nat) : Int) < (OO.length : Int) := by omega
          clear hx hy hc1 hc3 hr3 hr23 hT3
          go_wp2_with fail
          go_quiet (fail)
          go_wp2_with fail
          go_roundw
          case rel => exact ⟨q + 2, .inr (by omega), by omega, by go_num, below_drewN hbr _⟩
          case measure => simp [intOf]; omega
        case neg =>
        go_wp2_with fail
        have hr4 := hr3.below hbr; have hr24 := hr23.below hbr; have hT4 := hT3.below hbr
        have hb04 := hb03.trans (hbr.mono (by omega))
        have hgl4 := Nat.lt_of_lt_of_le hgl3 hbr.size
        obtain ⟨w4, hw4⟩ : ∃ w4, w4 = wr := ⟨_, rfl⟩
        subst hw4
        clear t0 t1 t2 t3 hr3 hr23 hT3 hb03 hgl3 hbr d0 d1 hq hq1
        go_cut [10] (fun t10 wx => ∃ p gB gO gS : Nat, t10 = Value.pointer (some ⟨p, 0, none⟩) ∧ CkS n l gB gO k root 2 A2 OO c2 p gS (fun _ => 0) 0 wx ∧ Below w4.heap.size w4 wx ∧ w4.heap.size ≤ p ∧ w4.heap.size ≤ gS)
        case first =>
          refine wp_region_tree [1, 5, 7] (fun w' => Below w4.heap.size w4 w') (fun w' => JC n l w4.heap.size none none w') 9 [0, 1, 2, 3, 4, 5, 6, 7, 8] (by rfl) (by decide) (by kernel_rfl) (by kernel_rfl) (Below.refl _ _).drew JC.start ?_
          refine TxtT.pure 0 (by rfl) (by rw [List.getElem?_toArray]; rfl) (by rfl) (by as_aux_lemma => kernel_rfl) (by rfl) ?_; apply Exists.intro; refine ⟨fun w1 hS1 => ?_, ?_⟩; (focus ((have g0 := (hS1.cell (lt_of_cell v0)).trans v0; have g1 := (hS1.cell (lt_of_cell v1)).trans v1); go_simp; with_reducible rfl))
          rw [show List.erase [0, 1, 2, 3, 4, 5, 6, 7, 8] 0 = [1, 2, 3, 4, 5, 6, 7, 8] from rfl]; simp only [Act.put, List.setIfInBounds_toArray, List.set_cons_zero, List.set_cons_succ]
          refine TxtT.pure 2 (by rfl) (by rw [List.getElem?_toArray]; rfl) (by rfl) (by as_aux_lemma => kernel_rfl) (by rfl) ?_; apply Exists.intro; refine ⟨fun w1 hS1 => ?_, ?_⟩; (focus ((have g0 := (hS1.cell (lt_of_cell u0)).trans u0; have g1 := (hS1.cell (lt_of_cell u1)).trans u1; have g2 := (hS1.cell (lt_of_cell u2)).trans u2; have g3 := (hS1.cell (lt_of_cell u3)).trans u3); go_simp; with_reducible rfl))
          rw [show List.erase [1, 2, 3, 4, 5, 6, 7, 8] 2 = [1, 3, 4, 5, 6, 7, 8] from rfl]; simp only [Act.put, List.setIfInBounds_toArray, List.set_cons_zero, List.set_cons_succ]
          refine TxtT.pure 3 (by rfl) (by rw [List.getElem?_toArray]; rfl) (by rfl) (by as_aux_lemma => kernel_rfl) (by rfl) ?_; apply Exists.intro; refine ⟨fun w1 hS1 => ?_, ?_⟩; (focus (skip; go_simp; with_reducible rfl))
          rw [show List.erase [1, 3, 4, 5, 6, 7, 8] 3 = [1, 4, 5, 6, 7, 8] from rfl]; simp only [Act.put, List.setIfInBounds_toArray, List.set_cons_zero, List.set_cons_succ]
          refine TxtT.pure 4 (by rfl) (by rw [List.getElem?_toArray]; rfl) (by rfl) (by as_aux_lemma => kernel_rfl) (by rfl) ?_; apply Exists.intro; refine ⟨fun w1 hS1 => ?_, ?_⟩; (focus ((have g0 := (hS1.cell (lt_of_cell v0)).trans v0); go_simp; with_reducible rfl))
          rw [show List.erase [1, 4, 5, 6, 7, 8] 4 = [1, 5, 6, 7, 8] from rfl]; simp only [Act.put, List.setIfInBounds_toArray, List.set_cons_zero, List.set_cons_succ]
          refine TxtT.two 1 5 (by as_aux_lemma => kernel_rfl) (by rw [List.getElem?_toArray]; rfl) (by rw [List.getElem?_toArray]; rfl) (by rfl) (by rfl) (by rfl) (by rfl) (fun v => ∃ gB gO : Nat, v = .agg #[.int .u64 ((allN n : Nat) : Int), .slice (some ⟨gB, 0, none⟩) n n, .slice (some ⟨gO, 0, none⟩) n n]) (fun v w' => ∃ gB gO : Nat, v = .agg #[.int .u64 ((allN n : Nat) : Int), .slice (some ⟨gB, 0, none⟩) n n, .slice (some ⟨gO, 0, none⟩) n n] ∧ JC n l w4.heap.size (some (gB, gO)) none w') (fun v => ∃ g, v = Value.slice (some ⟨g, 0, none⟩) n n) (fun v w' => ∃ g, v = Value.slice (some ⟨g, 0, none⟩) n n ∧ JC n l w4.heap.size none (some g) w') (fun w1 hS1 hJ1 => ?_) (fun w1 hS1 hJ1 => ?_) ?_ ?_
          · refine Eff.call (f := 63) (args := #[.agg #[.int .i64 (n : Int), .slice A l.length c]]) (by go_simp) ((netNew_any A n l c w1 (hr4.below hS1) Hv.out.1).mono ?_)
            rintro e w' ⟨gB, gO, rfl, hgB, hgO, hrB, hrO, hb⟩
            have hlB : gB < w'.heap.size := by obtain ⟨b, o, e, h⟩ := hrB 0 (by rw [byL_length]; omega); injection e with e; injection e with e _ _; rw [e]; exact lt_of_cell h
            have hlO : gO < w'.heap.size := by obtain ⟨b, o, e, h⟩ := hrO 0 (by rw [outL_length]; omega); injection e with e; injection e with e _ _; rw [e]; exact lt_of_cell h
            exact ⟨_, rfl, hS1.trans (hb.mono hS1.size), ⟨_, _, rfl⟩, _, _, rfl, hJ1.mN hS1.size hgB hgO ⟨hrB, hrO⟩ hlB hlO hb⟩
          · have hmk := Hmk.out
            exact Eff.value (w' := w1.alloc (.cells (madeCells #[.int .i64 0] n) 3)) (v := .slice (some ⟨w1.heap.size, 0, none⟩) n n) (by go_simp) ⟨hS1.trans ((newB w1 _).mono hS1.size), ⟨_, rfl⟩, _, rfl, hJ1.mS hS1.size⟩
          · rintro _ ⟨gB, gO, rfl⟩
            rw [show List.erase [1, 5, 6, 7, 8] 1 = [5, 6, 7, 8] from rfl]; simp only [Act.put, List.setIfInBounds_toArray, List.set_cons_zero, List.set_cons_succ]
            refine TxtT.weakJ (J2 := (fun w' => JC n l w4.heap.size (some (gB, gO)) none w')) (fun w1 h => by obtain ⟨g, g', hg, h⟩ := h; injection hg with hg; injection hg with hg; injection hg with _ hg; injection hg with h1 h2; injection h1 with h1 _ _; injection h1 with h1; injection h1 with h1 _ _; injection h2 with h2 _; injection h2 with h2 _ _; injection h2 with h2; injection h2 with h2 _ _; subst h1; subst h2; exact h) ?_
            refine TxtT.one 5 (by as_aux_lemma => kernel_rfl) (by rw [List.getElem?_toArray]; rfl) (by rfl) (by rfl) (fun v => ∃ g, v = Value.slice (some ⟨g, 0, none⟩) n n) (fun v w' => ∃ g, v = Value.slice (some ⟨g, 0, none⟩) n n ∧ JC n l w4.heap.size (some (gB, gO)) (some g) w') (fun w1 hS1 hJ1 => ?_) ?_
            · have hmk := Hmk.out
              exact Eff.value (w' := w1.alloc (.cells (madeCells #[.int .i64 0] n) 3)) (v := .slice (some ⟨w1.heap.size, 0, none⟩) n n) (by go_simp) ⟨hS1.trans ((newB w1 _).mono hS1.size), ⟨_, rfl⟩, _, rfl, hJ1.mS hS1.size⟩
            rintro _ ⟨gS, rfl⟩
            rw [show List.erase [5, 6, 7, 8] 5 = [6, 7, 8] from rfl]; simp only [Act.put, List.setIfInBounds_toArray, List.set_cons_zero, List.set_cons_succ]
            refine TxtT.weakJ (J2 := (fun w' => JC n l w4.heap.size (some (gB, gO)) (some gS) w')) (fun w1 h => by obtain ⟨g, hg, h⟩ := h; injection hg with hg; injection hg with hg; injection hg with hg _ _; subst hg; exact h) ?_
            refine TxtT.pure 6 (by rfl) (by rw [List.getElem?_toArray]; rfl) (by rfl) (by as_aux_lemma => kernel_rfl) (by rfl) ?_; apply Exists.intro; refine ⟨fun w1 hS1 => ?_, ?_⟩; (focus (skip; go_simp; with_reducible rfl))
            rw [show List.erase [6, 7, 8] 6 = [7, 8] from rfl]; simp only [Act.put, List.setIfInBounds_toArray, List.set_cons_zero, List.set_cons_succ]
            refine TxtT.one 7 (by as_aux_lemma => kernel_rfl) (by rw [List.getElem?_toArray]; rfl) (by rfl) (by rfl) (fun v => ∃ q, v = Value.pointer (some ⟨q, 0, none⟩)) (fun v w' => ∃ q, v = Value.pointer (some ⟨q, 0, none⟩) ∧ CkS n l gB gO k root 2 A2 OO c2 q gS (fun _ => 0) 0 w' ∧ w4.heap.size ≤ q ∧ w4.heap.size ≤ gS) (fun w1 hS1 hJ1 => ?_) ?_
            · exact Eff.value (w' := w1.alloc (.cells #[.int .u64 ((allN n : Nat) : Int), .slice (some ⟨gB, 0, none⟩) n n, .slice (some ⟨gO, 0, none⟩) n n, .int .i64 (k : Int), .int .i64 (root : Int), .int .i64 2, .slice A2 OO.length c2, .int .u64 0, .slice (some ⟨gS, 0, none⟩) n n] 122)) (v := .pointer (some ⟨w1.heap.size, 0, none⟩)) (by go_simp) ⟨hS1.trans ((newB w1 _).mono hS1.size), ⟨_, rfl⟩, _, rfl, CkS.make hr24 hT4 hS1 hJ1, hS1.size, (hJ1.fb gS rfl).1⟩
            rintro _ ⟨p, rfl⟩
            rw [show List.erase [7, 8] 7 = [8] from rfl]; simp only [Act.put, List.setIfInBounds_toArray, List.set_cons_zero, List.set_cons_succ]
            refine TxtT.pure 8 (by rfl) (by rw [List.getElem?_toArray]; rfl) (by rfl) (by as_aux_lemma => kernel_rfl) (by rfl) ?_; apply Exists.intro; refine ⟨fun w1 hS1 => ?_, ?_⟩; (focus (skip; go_simp; with_reducible rfl))
            rw [show List.erase [8] 8 = [] from rfl]; simp only [Act.put, List.setIfInBounds_toArray, List.set_cons_zero, List.set_cons_succ]
            refine ⟨rfl, fun w1 hS1 hJ1 => ?_⟩
            obtain ⟨q, hq, h1, h2, h3⟩ := hJ1
            injection hq with hq; injection hq with hq; injection hq with hq _ _; subst hq
            go_wp2_with fail
            go_meet
            exact ⟨p, gB, gO, gS, rfl, h1, hS1, h2, h3⟩
          · rintro _ ⟨gS, rfl⟩
            rw [show List.erase [1, 5, 6, 7, 8] 5 = [1, 6, 7, 8] from rfl]; simp only [Act.put, List.setIfInBounds_toArray, List.set_cons_zero, List.set_cons_succ]
            refine TxtT.weakJ (J2 := (fun w' => JC n l w4.heap.size none (some gS) w')) (fun w1 h => by obtain ⟨g, hg, h⟩ := h; injection hg with hg; injection hg with hg; injection hg with hg _ _; subst hg; exact h) ?_
            refine TxtT.one 1 (by as_aux_lemma => kernel_rfl) (by rw [List.getElem?_toArray]; rfl) (by rfl) (by rfl) (fun v => ∃ gB gO : Nat, v = .agg #[.int .u64 ((allN n : Nat) : Int), .slice (some ⟨gB, 0, none⟩) n n, .slice (some ⟨gO, 0, none⟩) n n]) (fun v w' => ∃ gB gO : Nat, v = .agg #[.int .u64 ((allN n : Nat) : Int), .slice (some ⟨gB, 0, none⟩) n n, .slice (some ⟨gO, 0, none⟩) n n] ∧ JC n l w4.heap.size (some (gB, gO)) (some gS) w') (fun w1 hS1 hJ1 => ?_) ?_
            · refine Eff.call (f := 63) (args := #[.agg #[.int .i64 (n : Int), .slice A l.length c]]) (by go_simp) ((netNew_any A n l c w1 (hr4.below hS1) Hv.out.1).mono ?_)
              rintro e w' ⟨gB, gO, rfl, hgB, hgO, hrB, hrO, hb⟩
              have hlB : gB < w'.heap.size := by obtain ⟨b, o, e, h⟩ := hrB 0 (by rw [byL_length]; omega); injection e with e; injection e with e _ _; rw [e]; exact lt_of_cell h
              have hlO : gO < w'.heap.size := by obtain ⟨b, o, e, h⟩ := hrO 0 (by rw [outL_length]; omega); injection e with e; injection e with e _ _; rw [e]; exact lt_of_cell h
              exact ⟨_, rfl, hS1.trans (hb.mono hS1.size), ⟨_, _, rfl⟩, _, _, rfl, hJ1.mN hS1.size hgB hgO ⟨hrB, hrO⟩ hlB hlO hb⟩
            rintro _ ⟨gB, gO, rfl⟩
            rw [show List.erase [1, 6, 7, 8] 1 = [6, 7, 8] from rfl]; simp only [Act.put, List.setIfInBounds_toArray, List.set_cons_zero, List.set_cons_succ]
            refine TxtT.weakJ (J2 := (fun w' => JC n l w4.heap.size (some (gB, gO)) (some gS) w')) (fun w1 h => by obtain ⟨g, g', hg, h⟩ := h; injection hg with hg; injection hg with hg; injection hg with _ hg; injection hg with h1 h2; injection h1 with h1 _ _; injection h1 with h1; injection h1 with h1 _ _; injection h2 with h2 _; injection h2 with h2 _ _; injection h2 with h2; injection h2 with h2 _ _; subst h1; subst h2; exact h) ?_
            refine TxtT.pure 6 (by rfl) (by rw [List.getElem?_toArray]; rfl) (by rfl) (by as_aux_lemma => kernel_rfl) (by rfl) ?_; apply Exists.intro; refine ⟨fun w1 hS1 => ?_, ?_⟩; (focus (skip; go_simp; with_reducible rfl))
            rw [show List.erase [6, 7, 8] 6 = [7, 8] from rfl]; simp only [Act.put, List.setIfInBounds_toArray, List.set_cons_zero, List.set_cons_succ]
            refine TxtT.one 7 (by as_aux_lemma => kernel_rfl) (by rw [List.getElem?_toArray]; rfl) (by rfl) (by rfl) (fun v => ∃ q, v = Value.pointer (some ⟨q, 0, none⟩)) (fun v w' => ∃ q, v = Value.pointer (some ⟨q, 0, none⟩) ∧ CkS n l gB gO k root 2 A2 OO c2 q gS (fun _ => 0) 0 w' ∧ w4.heap.size ≤ q ∧ w4.heap.size ≤ gS) (fun w1 hS1 hJ1 => ?_) ?_
            · exact Eff.value (w' := w1.alloc (.cells #[.int .u64 ((allN n : Nat) : Int), .slice (some ⟨gB, 0, none⟩) n n, .slice (some ⟨gO, 0, none⟩) n n, .int .i64 (k : Int), .int .i64 (root : Int), .int .i64 2, .slice A2 OO.length c2, .int .u64 0, .slice (some ⟨gS, 0, none⟩) n n] 122)) (v := .pointer (some ⟨w1.heap.size, 0, none⟩)) (by go_simp) ⟨hS1.trans ((newB w1 _).mono hS1.size), ⟨_, rfl⟩, _, rfl, CkS.make hr24 hT4 hS1 hJ1, hS1.size, (hJ1.fb gS rfl).1⟩
            rintro _ ⟨p, rfl⟩
            rw [show List.erase [7, 8] 7 = [8] from rfl]; simp only [Act.put, List.setIfInBounds_toArray, List.set_cons_zero, List.set_cons_succ]
            refine TxtT.pure 8 (by rfl) (by rw [List.getElem?_toArray]; rfl) (by rfl) (by as_aux_lemma => kernel_rfl) (by rfl) ?_; apply Exists.intro; refine ⟨fun w1 hS1 => ?_, ?_⟩; (focus (skip; go_simp; with_reducible rfl))
            rw [show List.erase [8] 8 = [] from rfl]; simp only [Act.put, List.setIfInBounds_toArray, List.set_cons_zero, List.set_cons_succ]
            refine ⟨rfl, fun w1 hS1 hJ1 => ?_⟩
            obtain ⟨q, hq, h1, h2, h3⟩ := hJ1
            injection hq with hq; injection hq with hq; injection hq with hq _ _; subst hq
            go_wp2_with fail
            go_meet
            exact ⟨p, gB, gO, gS, rfl, h1, hS1, h2, h3⟩
        obtain ⟨p, gB, gO, gS, rfl, hck, hb5, hp5, hg5⟩ := hcut
        have hwin := wins_any Hv.out.1 hn10 gB gO k root 2 A2 OO c2 p gS hroot Hk.out (.inr rfl) Ho.out Hasc.out hlo wc hck
        have Hwin := Lib.hid hwin
        have hb05 := hb04.trans (hb5.mono (by omega))
        have hs5 := hb5.size
        clear hwin hck v0 v1 u0 u1 u2 u3 hr4 hr24 hT4 hb04 hb5
        go_wp2_with fail
        refine Hwin.out.mono ?_
        rintro e w6 ⟨b, rfl, hpost, hmt⟩
        have Hpost := Lib.hid hpost
        have Hbe := Lib.hid (hb05.trans (hmt.below (B := G) (by omega) (by omega) (by omega)))
        clear hpost hmt hb05
        cases b
        · go_wp2_with fail
          go_ret
          exact ⟨false, rfl, Hpost.out, by rw [hG]; exact Hbe.out⟩
        · go_wp2_with fail
          go_ret
          exact ⟨true, rfl, Hpost.out, by rw [hG]; exact Hbe.out⟩
    case pos =>
    have hom := Ho.out _ (List.getElem_mem hqy)
    obtain ⟨bb, oo, hA2, hc0, hc1⟩ := toI_at (hr21.below hbr) hqy
    subst hA2
    obtain ⟨x, hx⟩ : ∃ x, OO[q].1 = x := ⟨_, rfl⟩
    obtain ⟨y, hy⟩ : ∃ y, OO[q].2 = y := ⟨_, rfl⟩
    rw [hx] at hom hc0; rw [hy] at hom hc1
    have hxi : (0 : Int) ≤ (x : Int) := by omega
    have hyi : (0 : Int) ≤ (y : Int) := by omega
    have hxn : (x : Int) < (n : Int) := by omega
    have hyn : (y : Int) < (n : Int) := by omega
    have d0 := (hbr.cell (lt_of_cell c0)).trans c0
    have hbs := hbr.size
    clear hom hx hy hr1 hr21 hT1 k1' k2' s0 s1 s2 s3 c0 c1
    go_wp2_with fail
    obtain ⟨wa, hwa, r0, r1, hba, hsa⟩ := boxed wr 106 (.int .i64 (x : Int)) (.int .i64 (y : Int))
    rw [hwa]
    have e0 := (hba.cell (lt_of_cell d0)).trans d0
    have hbra := endB hbr hba
    clear hwa hba hsa hbr hbs
    refine (gCheck1_any n x G wa e0 hxi hxn).mono ?_
    rintro e w2 ⟨rfl, rfl⟩
    go_wp2_with fail
    refine (gCheck1_any n y G wa e0 hyi hyn).mono ?_
    rintro e w2 ⟨rfl, rfl⟩
    go_wp2_with fail
    go_roundw
    case rel => exact ⟨q + 1, by omega, by go_num, hbra⟩
    case measure => simp [intOf]; omega
end Go.Proofs.YtncimnfhfomddaaDoor

/- The strategies of Solve win: plain. -/
namespace Go.Proofs.YtncimnfhfomddaaDoor
section
variable {n root k : Nat} {l : List (Int × Int)} {R : List Nat} {OO : List (Nat × Nat)}
theorem OgOk.rng (hv : InR n l) (h : OgOk n l root R OO) : ∀ q ∈ OO, q.1 < n ∧ q.2 < n := fun q hq => by
  obtain ⟨h1, h2⟩ := h.o q hq
  have h3 := h.ok _ h1
  exact ⟨h3.1, by rw [h2]; exact (pickO_ok hv h3.1 h3.2).1⟩
theorem OgOk.wins (hv : InR n l) (h : OgOk n l root R OO) {b : Bool} (hp : WPost n l 1 2 root OO b) : b = true := by
  obtain ⟨rc, hr⟩ := hp.2.1 rfl rfl
  refine hr.good ⟨fun v => v ∈ R, h.root, fun v hvR => ?_⟩
  have h3 := h.ok v hvR
  obtain ⟨h4, h5, _⟩ := pickO_ok hv h3.1 h3.2
  exact ⟨_, rpF_mem h.asc (h.all v hvR), h4, attQ_iff.2 h5, fun y hy => h.cl v hvR y (attQ_iff.1 hy)⟩
theorem AnOk.rng {pick : Nat → Nat} {P : Nat → Prop} (h : AnOk n (attQ l) pick P root R OO) : ∀ q ∈ OO, q.1 < n ∧ q.2 < n := fun q hq => by
  obtain ⟨_, h2, h3, _⟩ := h.o q hq
  exact ⟨h3, (h.ok _ h2).1⟩
/-- a proponent's answers win: in the grounded game the ranks descend, in the credulous one the set is free -/
theorem AnOk.wins {pick : Nat → Nat} {P : Nat → Prop} (hk : k = 1 ∨ k = 2) (h : AnOk n (attQ l) pick P root R OO) (hpa : ∀ a, P a → ∀ x, attQ l x a = true → attQ l (pick x) x = true) (rk : Nat → Nat) (hrk : k = 1 → ∀ a, P a → ∀ x, attQ l x a = true → rk (pick x) < rk a) (s : Nat) (hs : k = 2 → freeS n (attQ l) s = true ∧ ∀ a, P a → s.testBit a = true) {b : Bool} (hp : WPost n l k 1 root OO b) : b = true := by
  obtain ⟨b1, cur, rc, hpo, hrc, hrl, rfl⟩ := hp.1 rfl
  have hcl : RCl (attQ l) OO (fun v => v ∈ R) := fun v hvR x hx y hy => by
    have h1 := h.all v hvR x hx
    rw [rpF_mem h.asc h1] at hy; injection hy with hy; subst hy
    exact (h.o _ h1).2.1
  have hb1 : b1 = true := hpo.good ⟨fun v => v ∈ R, rk, h.root, fun v hvR x hx => by
    have h1 := h.all v hvR x hx
    have h2 := (h.o _ h1).2.1
    exact ⟨pick x, rpF_mem h.asc h1, (h.ok _ h2).1, hpa v (h.ok v hvR).2 x hx, h2, fun e => hrk e v (h.ok v hvR).2 x hx⟩, fun _ u hu => absurd hu (fun (e : (0 : Nat) = 1) => by cases e)⟩
  subst hb1
  rw [Bool.true_and, Bool.or_eq_true, decide_eq_true_iff]
  rcases hk with hk | hk
  · exact .inl hk
  right
  obtain ⟨hf, hPs⟩ := hs hk
  have hsub : ∀ v, rc.testBit v = true → s.testBit v = true := fun v hvb => by
    rw [hrc, decide_eq_true_iff] at hvb
    rcases hpo.sub rfl _ hcl h.root v hvb with e | e
    · exact absurd rfl e
    · exact hPs v (h.ok v e).2
  unfold freeS at hf ⊢
  rw [List.all_eq_true] at hf ⊢
  intro j hj
  have h1 := hf j hj
  rw [Bool.not_eq_true'] at h1 ⊢
  cases e : rc.testBit j
  · rfl
  · rw [hsub j e, Bool.true_and] at h1
    rw [Bool.true_and]
    refine Bool.eq_false_iff.2 fun hh => ?_
    obtain ⟨y, hy, sy, hyx⟩ := hitX_iff.1 hh
    rw [hitX_iff.2 ⟨y, hy, hsub y sy, hyx⟩] at h1; cases h1
theorem AnOk.winsC (hv : InR n l) {s : Nat} (ha : AdmS n (attQ l) s) (h : AnOk n (attQ l) (pickS n (attQ l) s) (fun a => s.testBit a = true) root R OO) {b : Bool} (hp : WPost n l 2 1 root OO b) : b = true :=
  h.wins (.inr rfl) (fun a hPa x hx => by
    obtain ⟨hxn, han⟩ := att_lt hv (attQ_iff.1 hx)
    exact (pick_ok ha hxn (foeS_iff.2 ⟨a, han, hPa, hx⟩)).2.2) (fun _ => 0) (fun e => by cases e) s (fun _ => ⟨ha.free, fun _ hPa => hPa⟩) hp
theorem AnOk.winsG (hv : InR n l) {K : Nat} (hK : ∀ i, gsF n l K i = gsB n l i) (h : AnOk n (attQ l) (pickG n l K) (fun a => gsB n l a = true) root R OO) {b : Bool} (hp : WPost n l 1 1 root OO b) : b = true :=
  h.wins (.inl rfl) (fun a hPa x hx => attQ_iff.2 (pickG_ok hv hK hPa (attQ_iff.1 hx)).1) (gsR n l) (fun _ a hPa x hx => (pickG_ok hv hK hPa (attQ_iff.1 hx)).2.2) 0 (fun e => by cases e) hp
end
end Go.Proofs.YtncimnfhfomddaaDoor
