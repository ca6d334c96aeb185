import Derived.Test.YtncimnfhfomddaaDoorEn3
import Derived.Test.YtncimnfhfomddaaDoorTgU
/- What ref21 computes, in plain words: put, toggle, Duties; these are the same as enforce's. -/
namespace Go.Proofs.YtncimnfhfomddaaDoor
open Go.ChangeShapes Go.WideShapes Go.ChangeAt Go.RowKit

/-- p comes before q -/
def ltB (p q : Int × Int) : Bool := decide (p.1 < q.1) || (decide (p.1 = q.1) && decide (p.2 < q.2))
theorem ltB_iff {p q : Int × Int} : ltB p q = true ↔ ltP p q := by unfold ltB ltP; simp
/-- a list with one more pair, ahead of the first one that does not come before it -/
def putL : List (Int × Int) → Int × Int → List (Int × Int)
  | [], p => [p]
  | q :: l, p => if ltB q p then q :: putL l p else p :: q :: l
theorem mem_putL {l : List (Int × Int)} {p x : Int × Int} : x ∈ putL l p ↔ x = p ∨ x ∈ l := by
  induction l with
  | nil => simp [putL]
  | cons q l ih =>
    unfold putL
    split
    · rw [List.mem_cons, ih, List.mem_cons]
      constructor
      · rintro (h | h | h)
        · exact .inr (.inl h)
        · exact .inl h
        · exact .inr (.inr h)
      · rintro (h | h | h)
        · exact .inr (.inl h)
        · exact .inl h
        · exact .inr (.inr h)
    · simp
theorem putL_len (l : List (Int × Int)) (p : Int × Int) : (putL l p).length = l.length + 1 := by
  induction l with
  | nil => rfl
  | cons q l ih => unfold putL; split <;> simp [ih]
theorem putL_at {p : Int × Int} : ∀ (l : List (Int × Int)) (k : Nat), k ≤ l.length → (∀ j (h : j < l.length), j < k → ltB l[j] p = true) → (∀ h : k < l.length, ltB l[k] p = false) → putL l p = l.take k ++ [p] ++ l.drop k := by
  intro l
  induction l with
  | nil => intro k hk _ _; have : k = 0 := by simpa using hk
           subst this; rfl
  | cons q l ih =>
    intro k hk h1 h2
    cases k with
    | zero =>
      have := h2 (by simp)
      rw [List.getElem_cons_zero] at this
      unfold putL
      rw [this]
      rfl
    | succ k =>
      have h0 := h1 0 (by simp) (by omega)
      rw [List.getElem_cons_zero] at h0
      unfold putL
      rw [h0, if_pos rfl, ih k (by simpa using hk) (fun j h hj => by have := h1 (j + 1) (by simp; omega) (by omega); rwa [List.getElem_cons_succ] at this) (fun h => by have := h2 (by simp; omega); rwa [List.getElem_cons_succ] at this)]
      simp
theorem ltP_total {p q : Int × Int} (h : ¬ ltP p q) (hne : p ≠ q) : ltP q p := by
  unfold ltP at *
  have : ¬ (p.1 = q.1 ∧ p.2 = q.2) := fun e => hne (Prod.ext e.1 e.2)
  omega
theorem putL_sorted {l : List (Int × Int)} {p : Int × Int} (h : l.Pairwise ltP) (hp : p ∉ l) : (putL l p).Pairwise ltP := by
  induction l with
  | nil => simp [putL]
  | cons q l ih =>
    rw [List.pairwise_cons] at h
    unfold putL
    split
    · rename_i hq
      rw [List.pairwise_cons]
      refine ⟨fun x hx => ?_, ih h.2 (fun e => hp (List.mem_cons_of_mem _ e))⟩
      rcases mem_putL.1 hx with rfl | hx
      · exact ltB_iff.1 hq
      · exact h.1 x hx
    · rename_i hq
      have hpq : ltP p q := ltP_total (fun e => hq (ltB_iff.2 e)) (fun e => hp (by rw [e]; exact List.mem_cons_self))
      rw [List.pairwise_cons, List.pairwise_cons]
      refine ⟨fun x hx => ?_, h⟩
      rcases List.mem_cons.1 hx with rfl | hx
      · exact hpq
      · exact ltP_trans hpq (h.1 x hx)
/-- one pair toggled, as ref21 does it -/
def togR (G : List (Int × Int)) (p : Int × Int) : List (Int × Int) := if hasB G p.1 p.2 then G.filter (fun q => !decide (q = p)) else putL G p
theorem mem_togR {G : List (Int × Int)} {p x : Int × Int} : x ∈ togR G p ↔ (decide (x ∈ G) != decide (x = p)) = true := by
  unfold togR
  by_cases h : p ∈ G
  · rw [if_pos (hasB_iff.2 h), List.mem_filter]
    by_cases e : x = p
    · subst e; simp [h]
    · simp [e]
  · rw [if_neg (fun e => h (hasB_iff.1 e)), mem_putL]
    by_cases e : x = p
    · subst e; simp [h]
    · simp [e]
theorem togR_sorted {G : List (Int × Int)} (hG : G.Pairwise ltP) (p : Int × Int) : (togR G p).Pairwise ltP := by
  unfold togR
  split
  · exact hG.filter _
  · rename_i h; exact putL_sorted hG (fun e => h (hasB_iff.2 e))
theorem togR_len (G : List (Int × Int)) (p : Int × Int) : (togR G p).length ≤ G.length + 1 := by
  unfold togR
  split
  · exact Nat.le_succ_of_le (List.length_filter_le ..)
  · rw [putL_len]; exact Nat.le_refl _
def togsR (G L : List (Int × Int)) : List (Int × Int) := L.foldl togR G
theorem togsR_len (G L : List (Int × Int)) : (togsR G L).length ≤ G.length + L.length := by
  induction L generalizing G with
  | nil => exact Nat.le_refl _
  | cons p L ih => unfold togsR at *; rw [List.foldl_cons]; have := ih (togR G p); have := togR_len G p; simp; omega
theorem togsR_sorted {L : List (Int × Int)} : ∀ {G : List (Int × Int)}, G.Pairwise ltP → (togsR G L).Pairwise ltP := by
  induction L with
  | nil => intro G h; exact h
  | cons p L ih => intro G h; exact ih (togR_sorted h p)
theorem mem_togsR {L : List (Int × Int)} : ∀ {G : List (Int × Int)} {x : Int × Int}, L.Nodup → (x ∈ togsR G L ↔ (decide (x ∈ G) != decide (x ∈ L)) = true) := by
  induction L with
  | nil => intro G x _; simp [togsR]
  | cons p L ih =>
    intro G x hL
    rw [List.nodup_cons] at hL
    show x ∈ togsR (togR G p) L ↔ _
    rw [ih hL.2]
    have h := mem_togR (G := G) (p := p) (x := x)
    by_cases e : x = p
    · subst e
      have hx := hL.1
      by_cases h1 : x ∈ G <;> simp [h1, hx] at h ⊢ <;> exact h
    · by_cases h1 : x ∈ G <;> by_cases h2 : x ∈ L <;> simp [h1, h2, e] at h ⊢ <;> exact h
/-- both toggle the same pairs -/
theorem togsR_tgL {G L : List (Int × Int)} (hG : G.Pairwise ltP) (hL : L.Nodup) : togsR G L = tgL G L := by
  have hn : G.Nodup := hG.imp fun {a b} hab e => by subst e; exact ltP_irrefl _ hab
  exact sortedP_ext _ _ (togsR_sorted hG) (tgL_sorted hn hL) fun x => by rw [mem_togsR hL, mem_tgL]
/-- what a set owes about node a, as ref21 finds it -/
def dyR (G : List (Int × Int)) (kind a : Int) (s : List Int) : List (Int × Int) := s.foldl (fun d x => if kind = 1 ∧ hasB G a x = true then putL (putL d (x, a)) (a, x) else putL d (x, a)) []
def hosR (G : List (Int × Int)) (kind a : Int) (s : List Int) : Bool := decide (kind = 2) || s.any fun x => decide (kind = 1) && hasB G a x
def oweR (G : List (Int × Int)) (s : List Int) (kind a : Int) : Bool := hosR G kind a s && (!inB s a && !atkB G s a)
def dutAR (G : List (Int × Int)) (s : List Int) : List (List (Int × Int)) := (G.filter fun p => inB s p.1 && inB s p.2).map fun p => [p]
def dutR (n : Nat) (G : List (Int × Int)) (s : List Int) (kind : Int) : List (List (Int × Int)) := dutAR G s ++ ((List.range n).filter fun a => oweR G s kind (a : Nat)).map fun a => dyR G kind (a : Nat) s
theorem dyR_snoc (G : List (Int × Int)) (kind a : Int) (s : List Int) (x : Int) : dyR G kind a (s ++ [x]) = if kind = 1 ∧ hasB G a x = true then putL (putL (dyR G kind a s) (x, a)) (a, x) else putL (dyR G kind a s) (x, a) := by
  unfold dyR; rw [List.foldl_append]; rfl
theorem dyR_len (G : List (Int × Int)) (kind a : Int) (s : List Int) : (dyR G kind a s).length ≤ 2 * s.length := by
  have h : ∀ (s : List Int) (d : List (Int × Int)), (s.foldl (fun d x => if kind = 1 ∧ hasB G a x = true then putL (putL d (x, a)) (a, x) else putL d (x, a)) d).length ≤ d.length + 2 * s.length := by
    intro s
    induction s with
    | nil => intro d; exact Nat.le_refl _
    | cons x s ih =>
      intro d
      rw [List.foldl_cons]
      refine Nat.le_trans (ih _) ?_
      split
      · rw [putL_len, putL_len]; simp; omega
      · rw [putL_len]; simp; omega
  have := h s []
  simpa [dyR] using this
theorem dyR_mem {G : List (Int × Int)} {kind a : Int} {p : Int × Int} (s : List Int) : p ∈ dyR G kind a s ↔ ∃ x ∈ s, p = (x, a) ∨ (p = (a, x) ∧ kind = 1 ∧ hasB G a x = true) := by
  have h : ∀ (s : List Int) (d : List (Int × Int)), p ∈ (s.foldl (fun d x => if kind = 1 ∧ hasB G a x = true then putL (putL d (x, a)) (a, x) else putL d (x, a)) d) ↔ p ∈ d ∨ ∃ x ∈ s, p = (x, a) ∨ (p = (a, x) ∧ kind = 1 ∧ hasB G a x = true) := by
    intro s
    induction s with
    | nil => intro d; simp
    | cons x s ih =>
      intro d
      rw [List.foldl_cons, ih]
      simp only [List.mem_cons, exists_eq_or_imp]
      by_cases hc : kind = 1 ∧ hasB G a x = true
      · rw [if_pos hc, mem_putL, mem_putL]
        simp only [hc, and_self, and_true]
        constructor
        · rintro ((h | h | h) | h)
          · exact .inr (.inl (.inr h))
          · exact .inr (.inl (.inl h))
          · exact .inl h
          · exact .inr (.inr h)
        · rintro (h | (h | h) | h)
          · exact .inl (.inr (.inr h))
          · exact .inl (.inr (.inl h))
          · exact .inl (.inl h)
          · exact .inr h
      · rw [if_neg hc, mem_putL]
        constructor
        · rintro ((h | h) | h)
          · exact .inr (.inl (.inl h))
          · exact .inl h
          · exact .inr (.inr h)
        · rintro (h | (h | h) | h)
          · exact .inl (.inr h)
          · exact .inl (.inl h)
          · exact absurd h.2 hc
          · exact .inr h
  have := h s []
  simpa [dyR] using this
theorem dyR_sorted {G : List (Int × Int)} {kind a : Int} {s : List Int} (hs : s.Nodup) (ha : a ∉ s) : (dyR G kind a s).Pairwise ltP := by
  suffices h : ∀ k, k ≤ s.length → (dyR G kind a (s.take k)).Pairwise ltP by have := h s.length (Nat.le_refl _); rwa [List.take_length] at this
  intro k
  induction k with
  | zero => intro _; rw [List.take_zero]; exact List.Pairwise.nil
  | succ k ih =>
    intro hk
    have hn : s[k] ∉ s.take k := fun hm => by
      have := hs.sublist (List.take_sublist (k + 1) s)
      rw [List.take_succ_eq_append_getElem hk, List.nodup_append] at this
      exact this.2.2 _ hm _ (List.mem_singleton.2 rfl) rfl
    have hne : s[k] ≠ a := fun e => ha (e ▸ List.getElem_mem hk)
    have h1 : (s[k], a) ∉ dyR G kind a (s.take k) := fun hm => by
      obtain ⟨x, hx, e | ⟨e, _⟩⟩ := (dyR_mem _).1 hm
      · injection e with e; subst e; exact hn hx
      · injection e with e; exact hne e
    have hs1 := putL_sorted (ih (by omega)) h1
    rw [List.take_succ_eq_append_getElem hk, dyR_snoc]
    split
    · refine putL_sorted hs1 fun hm => ?_
      rcases mem_putL.1 hm with e | hm
      · injection e with e; exact hne e.symm
      · obtain ⟨x, hx, e | ⟨e, _⟩⟩ := (dyR_mem _).1 hm
        · injection e with _ e; exact hne e
        · injection e with _ e; subst e; exact hn hx
    · exact hs1
theorem inB_maskN {n : Nat} {s : List Int} (hs : setB n s = true) (j : Nat) : inB s (j : Int) = (maskN s).testBit j := by
  rw [testBit_maskN, Bool.eq_iff_iff, inB_iff, List.any_eq_true]
  constructor
  · intro h; exact ⟨_, h, by simp⟩
  · rintro ⟨x, hx, e⟩
    have := setB_range hs x hx
    have e := of_decide_eq_true e
    rw [show (j : Int) = x by omega]
    exact hx
theorem dutAR_eq {n : Nat} {G : List (Int × Int)} {s : List Int} (hv : InR n G) (hs : setB n s = true) : dutAR G s = dutA (maskN s) G := by
  unfold dutAR dutA
  congr 1
  refine List.filter_congr fun p hp => ?_
  have := hv.2.2 p hp
  rw [← inB_maskN hs, ← inB_maskN hs, Int.toNat_of_nonneg this.1, Int.toNat_of_nonneg this.2.2.1]
theorem atk_hitX {n : Nat} {G : List (Int × Int)} {s : List Int} (hs : setB n s = true) (a : Nat) : atkB G s (a : Int) = hitX n (attQ G) (maskN s) a := by
  rw [Bool.eq_iff_iff, hitX_iff]
  unfold atkB
  rw [List.any_eq_true]
  constructor
  · rintro ⟨x, hx, h⟩
    have := setB_range hs x hx
    obtain ⟨i, rfl⟩ := Int.eq_ofNat_of_zero_le this.1
    exact ⟨i, by omega, by rw [← inB_maskN hs]; exact (inB_iff _ _).2 hx, by rw [← hasB_att]; exact h⟩
  · rintro ⟨i, hi, h1, h2⟩
    exact ⟨i, (inB_iff _ _).1 (by rw [inB_maskN hs]; exact h1), by rw [hasB_att]; exact h2⟩
theorem and0_iff {m k : Nat} : (m &&& k = 0) ↔ ∀ j, ¬ (m.testBit j = true ∧ k.testBit j = true) := by
  constructor
  · intro h j ⟨h1, h2⟩
    have := Nat.testBit_and m k j
    rw [h, Nat.zero_testBit, h1, h2] at this
    cases this
  · intro h
    apply Nat.eq_of_testBit_eq
    intro j
    rw [Nat.testBit_and, Nat.zero_testBit]
    have := h j
    cases h1 : m.testBit j <;> cases h2 : k.testBit j <;> simp_all
theorem out_hos {n : Nat} {G : List (Int × Int)} {s : List Int} (hv : InR n G) (hs : setB n s = true) {a : Nat} (ha : a < n) : (s.any fun x => hasB G a x) = !decide ((outL n G).getD a 0 &&& maskN s = 0) := by
  rw [Bool.eq_iff_iff, List.any_eq_true, Bool.not_eq_true', decide_eq_false_iff_not, and0_iff, outL_at ha]
  constructor
  · rintro ⟨x, hx, h⟩ hz
    have := setB_range hs x hx
    obtain ⟨i, rfl⟩ := Int.eq_ofNat_of_zero_le this.1
    refine hz i ⟨(has_mkM hv a i).2 (attQ_iff.1 (by rw [← hasB_att]; exact h)), ?_⟩
    rw [← inB_maskN hs]; exact (inB_iff _ _).2 hx
  · intro hz
    apply Classical.byContradiction
    intro hn
    apply hz
    rintro i ⟨h1, h2⟩
    exact hn ⟨i, (inB_iff _ _).1 (by rw [inB_maskN hs]; exact h2), by rw [hasB_att]; exact attQ_iff.2 ((has_mkM hv a i).1 h1)⟩
theorem oweR_eq {n : Nat} {G : List (Int × Int)} {s : List Int} {kind : Int} (hv : InR n G) (hs : setB n s = true) (hk : kind = 1 ∨ kind = 2) {a : Nat} (ha : a < n) : oweR G s kind a = dutO n G (maskN s) kind a := by
  unfold oweR dutO hosR
  rw [inB_maskN hs, atk_hitX hs]
  unfold hitM
  rw [hit_bit hv (setB_mask hv.1 hs).2]
  rcases hk with rfl | rfl
  · have h := out_hos hv hs ha
    rw [show (fun x => decide ((1 : Int) = 1) && hasB G (a : Int) x) = fun x => hasB G (a : Int) x from by funext x; simp, h, decide_eq_false (show ¬ (1 : Int) = 2 by decide), decide_eq_true (show (1 : Int) = 1 from rfl)]
    cases (maskN s).testBit a <;> cases hitX n (attQ G) (maskN s) a <;> cases decide ((outL n G).getD a 0 &&& maskN s = 0) <;> rfl
  · rw [decide_eq_true (show (2 : Int) = 2 from rfl), decide_eq_false (show ¬ (2 : Int) = 1 by decide), Bool.true_or, Bool.true_and, Bool.false_and, Bool.not_false, Bool.and_true]
theorem setB_nodup {n : Nat} {s : List Int} (hs : setB n s = true) : s.Nodup := (setB_sorted hs).imp fun {a b} hab e => by omega
theorem dutP_mem {n : Nat} {G : List (Int × Int)} {s : List Int} {kind : Int} (hv : InR n G) (hs : setB n s = true) {a : Nat} (ha : a < n) {p : Int × Int} : p ∈ dutP n G s kind a ↔ ∃ x ∈ s, p = (x, (a : Int)) ∨ (p = ((a : Int), x) ∧ kind = 1 ∧ hasB G a x = true) := by
  unfold dutP
  rw [List.mem_append, List.mem_map]
  have hn := hv.1
  constructor
  · rintro (⟨x, hx, rfl⟩ | h)
    · exact ⟨x, hx, .inl rfl⟩
    · split at h
      · rename_i hk
        obtain ⟨x, hx, rfl⟩ := List.mem_map.1 h
        obtain ⟨j, _, hj, rfl⟩ := mem_nodesB.1 hx
        rw [Nat.testBit_and, Bool.and_eq_true, outL_at ha] at hj
        exact ⟨j, (inB_iff _ _).1 (by rw [inB_maskN hs]; exact hj.2), .inr ⟨rfl, hk, by rw [hasB_att]; exact attQ_iff.2 ((has_mkM hv a j).1 hj.1)⟩⟩
      · cases h
  · rintro ⟨x, hx, rfl | ⟨rfl, hk, h⟩⟩
    · exact .inl ⟨x, hx, rfl⟩
    · refine .inr ?_
      rw [if_pos hk]
      have := setB_range hs x hx
      obtain ⟨i, rfl⟩ := Int.eq_ofNat_of_zero_le this.1
      refine List.mem_map.2 ⟨_, mem_nodesB.2 ⟨i, by omega, ?_, rfl⟩, rfl⟩
      rw [Nat.testBit_and, Bool.and_eq_true, outL_at ha]
      exact ⟨(has_mkM hv a i).2 (attQ_iff.1 (by rw [← hasB_att]; exact h)), by rw [← inB_maskN hs]; exact (inB_iff _ _).2 hx⟩
theorem nodesB_nodup (n : Nat) (p : Nat → Bool) : (nodesB n p).Nodup := setB_nodup (setB_nodes n p)
theorem nodup_map {α β : Type} {f : α → β} {l : List α} (hf : ∀ x y, f x = f y → x = y) (h : l.Nodup) : (l.map f).Nodup := List.pairwise_map.2 (h.imp fun hab e => hab (hf _ _ e))
theorem dutP_nodup {n : Nat} {G : List (Int × Int)} {s : List Int} {kind : Int} (hs : setB n s = true) {a : Nat} (ha : (a : Int) ∉ s) : (dutP n G s kind a).Nodup := by
  unfold dutP
  have h1 : (s.map fun x => (x, (a : Int))).Nodup := nodup_map (fun x y e => by injection e) (setB_nodup hs)
  split
  · rw [List.nodup_append]
    refine ⟨h1, nodup_map (fun x y e => by injection e) (nodesB_nodup _ _), fun p hp q hq e => ?_⟩
    obtain ⟨x, hx, rfl⟩ := List.mem_map.1 hp
    obtain ⟨y, hy, rfl⟩ := List.mem_map.1 hq
    injection e with e1 e2
    exact ha (e1 ▸ hx)
  · rw [List.append_nil]; exact h1
theorem dyR_eq {n : Nat} {G : List (Int × Int)} {s : List Int} {kind : Int} (hv : InR n G) (hs : setB n s = true) {a : Nat} (ha : a < n) (hns : (a : Int) ∉ s) : dyR G kind a s = srtP (dutP n G s kind a) :=
  sortedP_ext _ _ (dyR_sorted (setB_nodup hs) hns) (srtP_sorted (dutP_nodup hs hns)) fun p => by rw [dyR_mem, mem_srtP, dutP_mem hv hs ha]
/-- both find the same duties -/
theorem dutR_eq {n : Nat} {G : List (Int × Int)} {s : List Int} {kind : Int} (hv : InR n G) (hs : setB n s = true) (hk : kind = 1 ∨ kind = 2) : dutR n G s kind = dutL n G s kind := by
  unfold dutR dutL
  rw [dutAR_eq hv hs]
  congr 1
  have h1 : (List.range n).filter (fun a => oweR G s kind (a : Nat)) = (List.range n).filter (dutO n G (maskN s) kind) := List.filter_congr fun a ha => oweR_eq hv hs hk (List.mem_range.1 ha)
  rw [h1]
  refine List.map_congr_left fun a ha => ?_
  obtain ⟨h2, h3⟩ := List.mem_filter.1 ha
  refine dyR_eq hv hs (List.mem_range.1 h2) fun hm => ?_
  unfold dutO at h3
  rw [← inB_maskN hs, (inB_iff _ _).2 hm] at h3
  cases h3
end Go.Proofs.YtncimnfhfomddaaDoor
