/- A proponent who knows the nodes that are In wins every dialogue about such a node. Plain words, no program in sight. -/
import Derived.Test.YthkknlnfdckdfaaDoorGk
import Derived.Test.YthkknlnfdckdfaaDoorPrP
namespace Go.Proofs.YthkknlnfdckdfaaDoor
open Go.ChangeShapes Go.WideShapes Go.ChangeAt Go.RowKit

/-- what holds of a dialogue in which the proponent moves the nodes S alone -/
structure DgI (l : List (Int × Int)) (S : Int → Prop) (ms : List Mv) : Prop where
  ok : OkM ms
  first : (mv ms 0).1 = 1
  pair : ∀ i, 0 < i → i < ms.length → (mv ms i).2.1 = 2 → ((mv ms i).2.2.1, (mv ms (tg ms i)).2.2.1) ∈ l ∧ (mv ms i).1 + (mv ms (tg ms i)).1 = 3
  inn : ∀ i, i < ms.length → (mv ms i).1 = 1 → (mv ms i).2.1 ≠ 4 ∧ S (mv ms i).2.2.1
theorem DgI.clm {l : List (Int × Int)} {S : Int → Prop} {root : Int} (h : S root) : DgI l S (clm root) := by
  refine ⟨clm_ok root, rfl, fun i h0 hi => ?_, fun i hi _ => ?_⟩
  · rw [clm_len] at hi; omega
  · rw [clm_len] at hi
    obtain rfl : i = 0 := by omega
    exact ⟨by show (1 : Int) ≠ 4; decide, h⟩
theorem tg_app {ms : List Mv} {i : Nat} (x : Mv) (h : i < ms.length) : tg (ms ++ [x]) i = tg ms i := by unfold tg; rw [mv_app x h]
theorem DgI.snoc {l : List (Int × Int)} {S : Int → Prop} {ms : List Mv} (h : DgI l S ms) (hl : (lastM ms).2.1 ≠ 4) {m : Mv} (hm : MayB l ms m) (hS : m.1 = 1 → m.2.1 ≠ 4 ∧ S m.2.2.1) : DgI l S (ms ++ [m]) := by
  have hp := h.ok.pos
  refine ⟨h.ok.snoc hl hm, by rw [mv_app m hp]; exact h.first, fun i h0 hi hk => ?_, fun i hi hb => ?_⟩
  · rw [List.length_append, List.length_singleton] at hi
    by_cases e : i < ms.length
    · rw [mv_app m e] at hk
      have ht := (h.ok.tg h0 e).2
      rw [mv_app m e, tg_app m e, mv_app m (by omega)]
      exact h.pair i h0 e hk
    · obtain rfl : i = ms.length := by omega
      rw [mv_last] at hk
      rcases hm with hm | rfl
      · obtain ⟨t, ht, hx⟩ := mem_legL.1 hm
        obtain ⟨h1, h2, p, hp, hb, rfl⟩ := mem_legAt.1 hx
        have et : tg (ms ++ [(3 - leadr ms, 2, p.1, (t : Int))]) ms.length = t := by unfold tg; rw [mv_last]; simp
        rw [et, mv_last, mv_app _ ht]
        unfold lgB at hb
        rw [Bool.and_eq_true, beq_iff_eq] at hb
        refine ⟨?_, by rw [h2]; simp only; omega⟩
        simp only
        rw [← hb.1]; exact hp
      · simp at hk
  · rw [List.length_append, List.length_singleton] at hi
    by_cases e : i < ms.length
    · rw [mv_app m e] at hb ⊢; exact h.inn i e hb
    · obtain rfl : i = ms.length := by omega
      rw [mv_last] at hb ⊢; exact hS hb
/-- the labels and ranks of a graph; S are the nodes that are In -/
structure WinI (l : List (Int × Int)) (S : Int → Prop) (L R : Nat → Int) : Prop where
  nat : ∀ p ∈ l, ∃ a b : Nat, p = ((a : Int), (b : Int))
  snat : ∀ z, S z → ∃ x : Nat, z = (x : Int) ∧ L x = 1
  inS : ∀ a b : Nat, att l a b → L a = 1 → S a
  isIn : ∀ i, L i = 1 → 1 ≤ R i ∧ ∀ a, att l a i → L a = 2 ∧ R a < R i
  isOut : ∀ i, L i = 2 → ∃ a, att l a i ∧ L a = 1 ∧ 1 ≤ R a ∧ R a ≤ R i
theorem DgI.win {l : List (Int × Int)} {S : Int → Prop} {L R : Nat → Int} {ms : List Mv} (h : DgI l S ms) (hw : WinI l S L R) (hld : leadr ms = 2) : ∃ m ∈ legL l ms, S m.2.2.1 := by
  have key : ∀ (r x a : Nat), x < ms.length → ldF ms x = true → (mv ms x).1 = 1 → stF ms x = 2 → (mv ms x).2.2.1 = (a : Int) → L a = 1 → R a ≤ r → (∀ z : Nat, mvdF ms z x = true → R a ≤ R z) → ∃ m ∈ legL l ms, S m.2.2.1 := fun r => by
    induction r with
    | zero =>
      intro x a _ _ _ _ _ ha hr _
      have := (hw.isIn a ha).1; omega
    | succ r ih =>
      intro x a hx hl hb hs hn ha hr hmv
      obtain ⟨_, j, hj, hxj, hkj, htj, hsj⟩ := (st_two hx).1 hs
      have htg : tg ms j = x := by unfold tg; rw [htj]; simp
      obtain ⟨hp, hby⟩ := h.pair j (by omega) hj hkj
      rw [htg, hn] at hp
      rw [htg, hb] at hby
      obtain ⟨b, a', hpe⟩ := hw.nat _ hp
      injection hpe with e1 e2
      have hat : att l b a := by unfold att; rw [← e1]; exact hp
      obtain ⟨hLb, hRb⟩ := (hw.isIn a ha).2 b hat
      obtain ⟨c, hac, hLc, _, hRc⟩ := hw.isOut b hLb
      have hldj : ldF ms j = true := by
        rw [ld_eq h.ok (by omega) hj, htg, hl, hsj]; simp
      have hbj : (mv ms j).1 = 2 := by omega
      have hmj : mvdF ms (c : Int) j = false := by
        rw [mvd_eq h.ok _ (by omega) hj, htg]
        have e0 : ownB ms (c : Int) j = false := by unfold ownB; rw [hbj]; rfl
        rw [e0, Bool.false_or]
        cases hh : mvdF ms (c : Int) x
        · rfl
        · have := hmv c hh; omega
      cases hc : ms.contains ((1, 2, (c : Int), (j : Int)) : Mv)
      · refine ⟨(1, 2, (c : Int), (j : Int)), mem_legL.2 ⟨j, hj, mem_legAt.2 ⟨hldj, by rw [hbj, hld], _, hac, ?_, by rw [hld]; rfl⟩⟩, hw.inS c b hac hLc⟩
        unfold lgB
        rw [hld, e1]
        show (((b : Int) == (b : Int)) && (!(ms.contains ((3 - 2, 2, (c : Int), (j : Int)) : Mv)) && !((3 : Int) - 2 == 1 && mvdF ms (c : Int) j))) = true
        rw [show ((3 : Int) - 2) = 1 from rfl, hc, hmj]; simp
      · rw [List.contains_iff_mem, List.mem_iff_getElem] at hc
        obtain ⟨y, hy, he⟩ := hc
        have hey : mv ms y = (1, 2, (c : Int), (j : Int)) := by rw [mv_at hy]; exact he
        have hy0 : 0 < y := by
          rcases Nat.eq_zero_or_pos y with rfl | h0
          · have := h.ok.head; rw [hey] at this; simp at this
          · exact h0
        have hty : tg ms y = j := by unfold tg; rw [hey]; simp
        have hjy : j < y := by have := (h.ok.tg hy0 hy).2; omega
        have hk : (mv ms y).2.1 = 2 := by rw [hey]
        have hsy : stF ms y = 2 := by
          rcases st_012 hy with e | e | e
          · rw [st_zero hy, hk] at e; simp at e
          · have : stF ms j = 2 := (st_two hj).2 ⟨by rw [hkj]; decide, y, hy, hjy, hk, by rw [hey], e⟩
            omega
          · exact e
        refine ih y c hy ?_ (by rw [hey]) hsy (by rw [hey]) hLc (by omega) fun z hz => ?_
        · rw [ld_eq h.ok hy0 hy, hty, hldj, hsy, hbj, hld]; rfl
        · rw [mvd_eq h.ok _ hy0 hy, hty, mvd_eq h.ok _ (by omega) hj, htg, Bool.or_eq_true, Bool.or_eq_true] at hz
          rcases hz with hz | hz | hz
          · unfold ownB at hz
            rw [hey, Bool.and_eq_true, beq_iff_eq, beq_iff_eq] at hz
            have : c = z := by have := hz.2; simp only at this; omega
            rw [this]; exact Int.le_refl _
          · unfold ownB at hz
            rw [hbj, Bool.and_eq_true, beq_iff_eq] at hz
            have := hz.1; omega
          · have := hmv z hz; omega
  have h0 := h.ok.pos
  have hs0 : stF ms 0 = 2 := by
    unfold leadr at hld
    by_cases e : stF ms 0 = 2
    · exact e
    · rw [if_neg e] at hld; omega
  obtain ⟨x, hx, hLx⟩ := hw.snat _ (h.inn 0 h0 h.first).2
  refine key (R x).toNat 0 x h0 (ld_zero ms) h.first hs0 hx hLx (by omega) fun z hz => ?_
  rw [mvd_zero] at hz
  unfold ownB at hz
  rw [Bool.and_eq_true, beq_iff_eq, beq_iff_eq] at hz
  have : x = z := by have := hz.2; omega
  rw [this]; exact Int.le_refl _
/-- the outcome that the law asks for -/
theorem DgI.outcome {l : List (Int × Int)} {S : Int → Prop} {L R : Nat → Int} {ms : List Mv} (h : DgI l S ms) (hw : WinI l S L R) (ht : turnF 200 200 l ms = 0) : (endF 200 200 l ms).2 = 4 ∨ (endF 200 200 l ms).1 = 1 := by
  have hp := h.ok.pos
  have hlt : ms.length - 1 < ms.length := by omega
  unfold turnF at ht
  by_cases he : (endF 200 200 l ms).2 = 0
  · rw [if_pos he] at ht
    rcases leadr_12 ms with e | e <;> rw [e] at ht <;> omega
  unfold endF at he ⊢
  by_cases h1 : (lastM ms).2.1 = 4
  · rw [if_pos h1]
    refine .inr ?_
    rcases h.ok.who (ms.length - 1) hlt with e | e
    · exact absurd h1 (h.inn _ hlt e).1
    · show 3 - (mv ms (ms.length - 1)).1 = 1
      rw [e]; rfl
  rw [if_neg h1] at he ⊢
  by_cases h2 : 200 ≤ ms.length
  · rw [if_pos h2]; exact .inl rfl
  rw [if_neg h2] at he ⊢
  have h3 : ¬ limF 200 200 (3 - leadr ms) ≤ (madeN ms (3 - leadr ms) : Int) := by
    have := madeR_le ms (3 - leadr ms) ms.length
    unfold limF madeN; split <;> omega
  rw [if_neg h3] at he ⊢
  by_cases h4 : (legL l ms).length = 0
  · rw [if_pos h4]
    refine .inr ?_
    rcases leadr_12 ms with e | e
    · exact e
    · obtain ⟨m, hm, _⟩ := h.win hw e
      rw [List.length_eq_zero_iff] at h4
      rw [h4] at hm; cases hm
  · rw [if_neg h4] at he; exact absurd rfl he
/-- one more move of a run in which the proponent has the nodes S -/
theorem DgI.move {l : List (Int × Int)} {S : Int → Prop} {L R : Nat → Int} {ms : List Mv} {l0 l1 : Int} {p1 p2 : List Int} {s1 s2 : Int} (h : DgI l S ms) (hw : WinI l S L R) (hS : ∀ z, z ∈ p1 ↔ S z) (ht : turnF l0 l1 l ms ≠ 0) :
    DgI l S (ms ++ [chooseF l ms (if turnF l0 l1 l ms = 1 then p1 else p2) (if turnF l0 l1 l ms = 1 then s1 else s2)]) := by
  obtain ⟨h1, _, _, _, h5⟩ := turn_run ht
  refine h.snoc h1 (choose_may _ _ _ _) fun hb => ?_
  rw [h5] at hb ⊢
  rcases leadr_12 ms with e | e
  · exfalso
    rcases choose_may l ms (if 3 - leadr ms = 1 then p1 else p2) (if 3 - leadr ms = 1 then s1 else s2) with hm | hm
    · obtain ⟨_, _, hx⟩ := mem_legL.1 hm
      obtain ⟨_, _, _, _, _, hx⟩ := mem_legAt.1 hx
      rw [hx] at hb; simp only at hb; omega
    · rw [hm] at hb; simp only at hb; omega
  · obtain ⟨m, hm, hSm⟩ := h.win hw e
    rw [e, if_pos (by rfl), if_pos (by rfl)]
    have hne : (legL l ms).filter (poolB p1) ≠ [] := fun hh => by
      have : m ∈ (legL l ms).filter (poolB p1) := List.mem_filter.2 ⟨hm, by unfold poolB; rw [List.contains_iff_mem]; exact (hS _).2 hSm⟩
      rw [hh] at this; cases this
    have hne' : ¬ ((legL l ms).filter (poolB p1)).length = 0 := fun hh => hne (List.length_eq_zero_iff.1 hh)
    unfold chooseF
    rw [if_neg hne']
    have hmem := minF_mem (l := l) (s := s1) hne
    obtain ⟨hm1, hm2⟩ := List.mem_filter.1 hmem
    obtain ⟨_, _, hx⟩ := mem_legL.1 hm1
    obtain ⟨_, _, _, _, _, hx⟩ := mem_legAt.1 hx
    refine ⟨by rw [hx]; simp, (hS _).1 ?_⟩
    unfold poolB at hm2
    rw [List.contains_iff_mem] at hm2
    exact hm2
theorem DgI.run {l : List (Int × Int)} {S : Int → Prop} {L R : Nat → Int} {l0 l1 : Int} {p1 p2 : List Int} {s1 s2 : Int} (hw : WinI l S L R) (hS : ∀ z, z ∈ p1 ↔ S z) : ∀ (f : Nat) (ms : List Mv), DgI l S ms → 200 ≤ ms.length + f → DgI l S (runG l0 l1 l p1 p2 s1 s2 f ms) ∧ turnF l0 l1 l (runG l0 l1 l p1 p2 s1 s2 f ms) = 0
  | 0, ms, h, hf => by
    refine ⟨h, ?_⟩
    by_cases e : turnF l0 l1 l ms = 0
    · exact e
    · have := (turn_run e).2.1; omega
  | f + 1, ms, h, hf => by
    unfold runG
    by_cases e : turnF l0 l1 l ms = 0
    · rw [if_pos e]; exact ⟨h, e⟩
    · rw [if_neg e]
      exact DgI.run hw hS f _ (h.move hw hS e) (by rw [List.length_append, List.length_singleton]; omega)
end Go.Proofs.YthkknlnfdckdfaaDoor
