/- A dialogue about a node of a graph: its moves, their status, who leads, what is legal, how it ends. Plain words, no program in sight. -/
import Derived.Test.YthkknlnfdckdfaaGreatDoorBas
namespace Go.Proofs.YthkknlnfdckdfaaGreatDoor
open Go.ChangeShapes Go.WideShapes Go.ChangeAt Go.RowKit

/-- a move: by whom, of which kind, with which node, against which move -/
abbrev Mv := Int × Int × Int × Int
def mv (ms : List Mv) (i : Nat) : Mv := ms.getD i (0, 0, 0, 0)
theorem mv_at {ms : List Mv} {i : Nat} (h : i < ms.length) : mv ms i = ms[i] := by
  unfold mv; rw [List.getD_eq_getElem?_getD, List.getElem?_eq_getElem h]; rfl
theorem mv_mem {ms : List Mv} {i : Nat} (h : i < ms.length) : mv ms i ∈ ms := by rw [mv_at h]; exact List.getElem_mem h
theorem mv_app {ms : List Mv} {i : Nat} (x : Mv) (h : i < ms.length) : mv (ms ++ [x]) i = mv ms i := by
  unfold mv; rw [List.getD_eq_getElem?_getD, List.getD_eq_getElem?_getD, List.getElem?_append_left h]
theorem mv_last (ms : List Mv) (x : Mv) : mv (ms ++ [x]) ms.length = x := by
  unfold mv; rw [List.getD_eq_getElem?_getD, List.getElem?_append_right (Nat.le_refl _)]; simp

/-- the moves of a dialogue: a claim, then attacks on earlier moves; a concession is the last one -/
structure OkM (ms : List Mv) : Prop where
  pos : 0 < ms.length
  head : (mv ms 0).2.1 = 1
  who : ∀ i, i < ms.length → (mv ms i).1 = 1 ∨ (mv ms i).1 = 2
  rest : ∀ i, 0 < i → i < ms.length → ∃ t : Nat, (mv ms i).2.2.2 = (t : Int) ∧ t < i ∧ ((mv ms i).2.1 = 2 ∨ ((mv ms i).2.1 = 4 ∧ i + 1 = ms.length))
def tg (ms : List Mv) (i : Nat) : Nat := (mv ms i).2.2.2.toNat
theorem OkM.tg {ms : List Mv} (h : OkM ms) {i : Nat} (h0 : 0 < i) (hi : i < ms.length) : (mv ms i).2.2.2 = (tg ms i : Int) ∧ tg ms i < i := by
  obtain ⟨t, e, ht, _⟩ := h.rest i h0 hi
  unfold Go.Proofs.YthkknlnfdckdfaaGreatDoor.tg
  rw [e]; omega
theorem OkM.k4 {ms : List Mv} (h : OkM ms) {i : Nat} (hi : i + 1 < ms.length) : (mv ms i).2.1 ≠ 4 := by
  rcases Nat.eq_zero_or_pos i with rfl | h0
  · rw [h.head]; decide
  · obtain ⟨_, _, _, h2 | h2⟩ := h.rest i h0 (by omega)
    · rw [h2]; decide
    · omega
theorem OkM.k3 {ms : List Mv} (h : OkM ms) {i : Nat} (hi : i < ms.length) : (mv ms i).2.1 ≠ 3 := by
  rcases Nat.eq_zero_or_pos i with rfl | h0
  · rw [h.head]; decide
  · obtain ⟨_, _, _, h2 | h2⟩ := h.rest i h0 hi
    · rw [h2]; decide
    · rw [h2.1]; decide
theorem OkM.k2 {ms : List Mv} (h : OkM ms) {i : Nat} (h0 : 0 < i) (hi : i < ms.length) : (mv ms i).2.1 = 2 ∨ (mv ms i).2.1 = 4 := by
  obtain ⟨_, _, _, h2 | h2⟩ := h.rest i h0 hi
  · exact .inl h2
  · exact .inr h2.1
theorem OkM.tk {ms : List Mv} (h : OkM ms) {i : Nat} (h0 : 0 < i) (hi : i < ms.length) : (mv ms (Go.Proofs.YthkknlnfdckdfaaGreatDoor.tg ms i)).2.1 ≠ 4 :=
  h.k4 (by have := (h.tg h0 hi).2; omega)

/-! The status of a move: 1 if it stands, 2 if a standing one attacks it, 0 if it is none. -/
def hitM (ms : List Mv) (st : Nat → Int) (i j : Nat) : Bool := decide (i < j) && ((mv ms j).2.1 == 2 && ((mv ms j).2.2.2 == (i : Int) && st j == 1))
def stU (ms : List Mv) : Nat → Nat → Int
  | 0, _ => 1
  | f + 1, i => if (mv ms i).2.1 = 4 then 0 else if (List.range ms.length).any (hitM ms (stU ms f) i) then 2 else 1
def stF (ms : List Mv) (i : Nat) : Int := stU ms ms.length i
theorem any_congr' {n : Nat} {p q : Nat → Bool} (h : ∀ j, j < n → p j = q j) : (List.range n).any p = (List.range n).any q := by
  rw [Bool.eq_iff_iff, List.any_eq_true, List.any_eq_true]
  constructor <;> rintro ⟨j, hj, e⟩ <;> refine ⟨j, hj, ?_⟩
  · rw [← h j (List.mem_range.1 hj)]; exact e
  · rw [h j (List.mem_range.1 hj)]; exact e
theorem stU_any (ms : List Mv) : ∀ (f g i : Nat), i < ms.length → ms.length - i ≤ f → ms.length - i ≤ g → stU ms f i = stU ms g i
  | 0, _, _, _, _, _ => by omega
  | _ + 1, 0, _, _, _, _ => by omega
  | f + 1, g + 1, i, hi, hf, hg => by
    unfold stU
    have e : (List.range ms.length).any (hitM ms (stU ms f) i) = (List.range ms.length).any (hitM ms (stU ms g) i) := any_congr' fun j hj => by
      unfold hitM
      by_cases h : i < j
      · rw [stU_any ms f g j hj (by omega) (by omega)]
      · rw [decide_eq_false h, Bool.false_and, Bool.false_and]
    rw [e]
/-- the status of a move after the moves with greater index than k have been looked at -/
def stK (ms : List Mv) (k i : Nat) : Int := if (mv ms i).2.1 = 4 then 0 else if (List.range ms.length).any (fun j => decide (k < j) && hitM ms (stF ms) i j) then 2 else 1
theorem st_eq {ms : List Mv} {i : Nat} (hi : i < ms.length) : stF ms i = if (mv ms i).2.1 = 4 then 0 else if (List.range ms.length).any (hitM ms (stF ms) i) then 2 else 1 := by
  have hF : stF ms i = stU ms (ms.length + 1) i := stU_any ms _ _ i hi (by omega) (by omega)
  rw [hF, stU]
  rfl
theorem stK_low {ms : List Mv} {k i : Nat} (hk : k ≤ i) (hi : i < ms.length) : stK ms k i = stF ms i := by
  rw [st_eq hi]
  unfold stK
  rw [any_congr' (p := fun j => decide (k < j) && hitM ms (stF ms) i j) (q := hitM ms (stF ms) i) fun j _ => ?_]
  unfold hitM
  by_cases h : i < j
  · rw [decide_eq_true (show k < j by omega), Bool.true_and]
  · rw [decide_eq_false h, Bool.false_and, Bool.and_false]
theorem stK_top {ms : List Mv} {k i : Nat} (hk : ms.length ≤ k + 1) : stK ms k i = if (mv ms i).2.1 = 4 then 0 else 1 := by
  unfold stK
  have : (List.range ms.length).any (fun j => decide (k < j) && hitM ms (stF ms) i j) = false := by
    rw [List.any_eq_false]
    intro j hj
    rw [List.mem_range] at hj
    rw [decide_eq_false (show ¬ k < j by omega), Bool.false_and]; simp
  rw [this]; simp
theorem st_012 {ms : List Mv} {i : Nat} (hi : i < ms.length) : stF ms i = 0 ∨ stF ms i = 1 ∨ stF ms i = 2 := by
  rw [st_eq hi]; split
  · exact .inl rfl
  · split
    · exact .inr (.inr rfl)
    · exact .inr (.inl rfl)
theorem st_zero {ms : List Mv} {i : Nat} (hi : i < ms.length) : stF ms i = 0 ↔ (mv ms i).2.1 = 4 := by
  rw [st_eq hi]; split
  · simp [*]
  · split <;> simp [*]
theorem st_two {ms : List Mv} {i : Nat} (hi : i < ms.length) : stF ms i = 2 ↔ (mv ms i).2.1 ≠ 4 ∧ ∃ j, j < ms.length ∧ i < j ∧ (mv ms j).2.1 = 2 ∧ (mv ms j).2.2.2 = (i : Int) ∧ stF ms j = 1 := by
  have e : (List.range ms.length).any (hitM ms (stF ms) i) = true ↔ ∃ j, j < ms.length ∧ i < j ∧ (mv ms j).2.1 = 2 ∧ (mv ms j).2.2.2 = (i : Int) ∧ stF ms j = 1 := by
    rw [List.any_eq_true]
    unfold hitM
    constructor
    · rintro ⟨j, hj, h⟩
      rw [Bool.and_eq_true, Bool.and_eq_true, Bool.and_eq_true, decide_eq_true_iff, beq_iff_eq, beq_iff_eq, beq_iff_eq] at h
      exact ⟨j, List.mem_range.1 hj, h⟩
    · rintro ⟨j, hj, h⟩
      refine ⟨j, List.mem_range.2 hj, ?_⟩
      rw [Bool.and_eq_true, Bool.and_eq_true, Bool.and_eq_true, decide_eq_true_iff, beq_iff_eq, beq_iff_eq, beq_iff_eq]
      exact h
  rw [← e, st_eq hi]
  split
  · simp [*]
  · split <;> simp [*]
/-- one step back: what the look at move k (a standing one) does -/
theorem stK_step {ms : List Mv} (h : OkM ms) {k i : Nat} (h0 : 0 < k) (hk : k < ms.length) : stK ms (k - 1) i = if stF ms k = 1 ∧ i = tg ms k then 2 else stK ms k i := by
  obtain ⟨ht, hlt⟩ := h.tg h0 hk
  have hsplit : (List.range ms.length).any (fun j => decide (k - 1 < j) && hitM ms (stF ms) i j) = ((List.range ms.length).any (fun j => decide (k < j) && hitM ms (stF ms) i j) || hitM ms (stF ms) i k) := by
    rw [Bool.eq_iff_iff, Bool.or_eq_true, List.any_eq_true, List.any_eq_true]
    constructor
    · rintro ⟨j, hj, e⟩
      rw [Bool.and_eq_true, decide_eq_true_iff] at e
      by_cases hjk : j = k
      · subst hjk; exact .inr e.2
      · exact .inl ⟨j, hj, by rw [Bool.and_eq_true, decide_eq_true_iff]; exact ⟨by omega, e.2⟩⟩
    · rintro (⟨j, hj, e⟩ | e)
      · rw [Bool.and_eq_true, decide_eq_true_iff] at e
        exact ⟨j, hj, by rw [Bool.and_eq_true, decide_eq_true_iff]; exact ⟨by omega, e.2⟩⟩
      · exact ⟨k, List.mem_range.2 hk, by rw [Bool.and_eq_true, decide_eq_true_iff]; exact ⟨by omega, e⟩⟩
  have hhit : hitM ms (stF ms) i k = true ↔ stF ms k = 1 ∧ i = tg ms k := by
    unfold hitM
    rw [Bool.and_eq_true, Bool.and_eq_true, Bool.and_eq_true, decide_eq_true_iff, beq_iff_eq, beq_iff_eq, beq_iff_eq, ht]
    constructor
    · rintro ⟨_, _, b, c⟩
      exact ⟨c, by omega⟩
    · rintro ⟨c, rfl⟩
      refine ⟨hlt, ?_, rfl, c⟩
      rcases h.k2 h0 hk with e | e
      · exact e
      · rw [← st_zero hk] at e; omega
  unfold stK
  rw [hsplit]
  by_cases hc : stF ms k = 1 ∧ i = tg ms k
  · rw [if_pos hc, hhit.2 hc, Bool.or_true, if_neg (by rw [hc.2]; exact h.tk h0 hk), if_pos rfl]
  · rw [if_neg hc]
    have : hitM ms (stF ms) i k = false := by
      rw [← Bool.not_eq_true, hhit]; exact hc
    rw [this, Bool.or_false]

/-! The leader, and the leading part. -/
def leadr (ms : List Mv) : Int := if stF ms 0 = 2 then 2 else 1
theorem leadr_12 (ms : List Mv) : leadr ms = 1 ∨ leadr ms = 2 := by unfold leadr; split <;> simp
def ldU (ms : List Mv) : Nat → Nat → Bool
  | 0, _ => true
  | f + 1, i => if i = 0 then true else !(stF ms i == 0) && (ldU ms f (tg ms i) && ((mv ms (tg ms i)).1 == leadr ms || stF ms i == 1))
def ldF (ms : List Mv) (i : Nat) : Bool := ldU ms i i
theorem ldU_any {ms : List Mv} (h : OkM ms) : ∀ (f g i : Nat), i < ms.length → i ≤ f → i ≤ g → ldU ms f i = ldU ms g i
  | 0, 0, _, _, _, _ => rfl
  | 0, g + 1, i, _, hf, _ => by
    obtain rfl : i = 0 := by omega
    rfl
  | f + 1, 0, i, _, _, hg => by
    obtain rfl : i = 0 := by omega
    rfl
  | f + 1, g + 1, i, hi, hf, hg => by
    unfold ldU
    by_cases h0 : i = 0
    · rw [if_pos h0, if_pos h0]
    · have ht := (h.tg (by omega) hi).2
      rw [if_neg h0, if_neg h0, ldU_any h f g (tg ms i) (by omega) (by omega) (by omega)]
theorem ld_zero (ms : List Mv) : ldF ms 0 = true := rfl
theorem ld_eq {ms : List Mv} (h : OkM ms) {i : Nat} (h0 : 0 < i) (hi : i < ms.length) : ldF ms i = (!(stF ms i == 0) && (ldF ms (tg ms i) && ((mv ms (tg ms i)).1 == leadr ms || stF ms i == 1))) := by
  have ht := (h.tg h0 hi).2
  obtain ⟨f, rfl⟩ : ∃ f, i = f + 1 := ⟨i - 1, by omega⟩
  unfold ldF
  rw [ldU, if_neg (by omega), ldU_any h f (tg ms (f + 1)) (tg ms (f + 1)) (by omega) (by omega) (Nat.le_refl _)]

/-! Whether the proponent has moved a node on the way. -/
def ownB (ms : List Mv) (x : Int) (i : Nat) : Bool := (mv ms i).1 == 1 && (mv ms i).2.2.1 == x
def mvdU (ms : List Mv) (x : Int) : Nat → Nat → Bool
  | 0, i => ownB ms x i
  | f + 1, i => ownB ms x i || (!(i == 0) && mvdU ms x f (tg ms i))
def mvdF (ms : List Mv) (x : Int) (i : Nat) : Bool := mvdU ms x i i
theorem mvdU_zero (ms : List Mv) (x : Int) : ∀ f, mvdU ms x f 0 = ownB ms x 0
  | 0 => rfl
  | f + 1 => by unfold mvdU; simp
theorem mvdU_any {ms : List Mv} (h : OkM ms) (x : Int) : ∀ (f g i : Nat), i < ms.length → i ≤ f → i ≤ g → mvdU ms x f i = mvdU ms x g i
  | 0, g, i, _, hf, _ => by
    obtain rfl : i = 0 := by omega
    rw [mvdU_zero, mvdU_zero]
  | f + 1, 0, i, _, _, hg => by
    obtain rfl : i = 0 := by omega
    rw [mvdU_zero, mvdU_zero]
  | f + 1, g + 1, i, hi, hf, hg => by
    by_cases h0 : i = 0
    · subst h0; rw [mvdU_zero, mvdU_zero]
    · have ht := (h.tg (by omega) hi).2
      unfold mvdU
      rw [mvdU_any h x f g (tg ms i) (by omega) (by omega) (by omega)]
theorem mvd_zero (ms : List Mv) (x : Int) : mvdF ms x 0 = ownB ms x 0 := rfl
theorem mvd_eq {ms : List Mv} (h : OkM ms) (x : Int) {i : Nat} (h0 : 0 < i) (hi : i < ms.length) : mvdF ms x i = (ownB ms x i || mvdF ms x (tg ms i)) := by
  have ht := (h.tg h0 hi).2
  obtain ⟨f, rfl⟩ : ∃ f, i = f + 1 := ⟨i - 1, by omega⟩
  unfold mvdF
  rw [mvdU, mvdU_any h x f (tg ms (f + 1)) (tg ms (f + 1)) (by omega) (by omega) (Nat.le_refl _)]
  simp

/-! The legal attacks. -/
def lgB (ms : List Mv) (i : Nat) (p : Int × Int) : Bool := p.2 == (mv ms i).2.2.1 && (!(ms.contains (3 - leadr ms, 2, p.1, (i : Int))) && !(3 - leadr ms == 1 && mvdF ms p.1 i))
def legAt (l : List (Int × Int)) (ms : List Mv) (i : Nat) : List Mv := if (ldF ms i && (mv ms i).1 == leadr ms) = true then (l.filter (lgB ms i)).map fun p => (3 - leadr ms, 2, p.1, (i : Int)) else []
def legR (l : List (Int × Int)) (ms : List Mv) : Nat → List Mv
  | 0 => []
  | k + 1 => legR l ms k ++ legAt l ms k
def legL (l : List (Int × Int)) (ms : List Mv) : List Mv := legR l ms ms.length
theorem mem_legAt {l : List (Int × Int)} {ms : List Mv} {i : Nat} {x : Mv} : x ∈ legAt l ms i ↔ ldF ms i = true ∧ (mv ms i).1 = leadr ms ∧ ∃ p ∈ l, lgB ms i p = true ∧ x = (3 - leadr ms, 2, p.1, (i : Int)) := by
  unfold legAt
  split
  case isTrue h =>
    rw [Bool.and_eq_true, beq_iff_eq] at h
    rw [List.mem_map]
    constructor
    · rintro ⟨p, hp, rfl⟩
      rw [List.mem_filter] at hp
      exact ⟨h.1, h.2, p, hp.1, hp.2, rfl⟩
    · rintro ⟨_, _, p, hp, hb, rfl⟩
      exact ⟨p, List.mem_filter.2 ⟨hp, hb⟩, rfl⟩
  case isFalse h =>
    rw [Bool.and_eq_true, beq_iff_eq] at h
    constructor
    · intro hh; cases hh
    · rintro ⟨a, b, _⟩; exact absurd ⟨a, b⟩ h
theorem mem_legR {l : List (Int × Int)} {ms : List Mv} {x : Mv} : ∀ {k : Nat}, x ∈ legR l ms k ↔ ∃ i, i < k ∧ x ∈ legAt l ms i
  | 0 => by
    constructor
    · intro h; cases h
    · rintro ⟨_, h, _⟩; omega
  | k + 1 => by
    unfold legR
    rw [List.mem_append, mem_legR]
    constructor
    · rintro (⟨i, h, e⟩ | e)
      · exact ⟨i, by omega, e⟩
      · exact ⟨k, by omega, e⟩
    · rintro ⟨i, h, e⟩
      by_cases hk : i = k
      · subst hk; exact .inr e
      · exact .inl ⟨i, by omega, e⟩
theorem mem_legL {l : List (Int × Int)} {ms : List Mv} {x : Mv} : x ∈ legL l ms ↔ ∃ i, i < ms.length ∧ x ∈ legAt l ms i := mem_legR
theorem legAt_len (l : List (Int × Int)) (ms : List Mv) (i : Nat) : (legAt l ms i).length ≤ l.length := by
  unfold legAt; split
  · rw [List.length_map]; exact List.length_filter_le _ _
  · exact Nat.zero_le _
theorem legR_len (l : List (Int × Int)) (ms : List Mv) : ∀ k, (legR l ms k).length ≤ k * l.length
  | 0 => by simp [legR]
  | k + 1 => by
    unfold legR
    rw [List.length_append, Nat.succ_mul]
    have := legR_len l ms k; have := legAt_len l ms k; omega

/-! How it ends, whose turn it is. -/
def madeR (ms : List Mv) (b : Int) : Nat → Nat
  | 0 => 0
  | k + 1 => madeR ms b k + if (mv ms k).1 = b then 1 else 0
def madeN (ms : List Mv) (b : Int) : Nat := madeR ms b ms.length
theorem madeR_le (ms : List Mv) (b : Int) : ∀ k, madeR ms b k ≤ k
  | 0 => Nat.le_refl _
  | k + 1 => by unfold madeR; have := madeR_le ms b k; split <;> omega
def lastM (ms : List Mv) : Mv := mv ms (ms.length - 1)
def limF (l0 l1 : Int) (b : Int) : Int := if b = 1 then l0 else l1
/-- the winner and the reason -/
def endF (l0 l1 : Int) (l : List (Int × Int)) (ms : List Mv) : Int × Int :=
  if (lastM ms).2.1 = 4 then (3 - (lastM ms).1, 3)
  else if 200 ≤ ms.length then (leadr ms, 4)
  else if limF l0 l1 (3 - leadr ms) ≤ (madeN ms (3 - leadr ms) : Int) then (leadr ms, 2)
  else if (legL l ms).length = 0 then (leadr ms, 1)
  else (0, 0)
def turnF (l0 l1 : Int) (l : List (Int × Int)) (ms : List Mv) : Int := if (endF l0 l1 l ms).2 = 0 then 3 - leadr ms else 0
theorem turn_run {l0 l1 : Int} {l : List (Int × Int)} {ms : List Mv} (h : turnF l0 l1 l ms ≠ 0) : (lastM ms).2.1 ≠ 4 ∧ ms.length < 200 ∧ legL l ms ≠ [] ∧ (endF l0 l1 l ms).2 = 0 ∧ turnF l0 l1 l ms = 3 - leadr ms := by
  unfold turnF at h ⊢
  by_cases he : (endF l0 l1 l ms).2 = 0
  · rw [if_pos he]
    have he' := he
    unfold endF at he
    by_cases h1 : (lastM ms).2.1 = 4
    · rw [if_pos h1] at he; simp at he
    rw [if_neg h1] at he
    by_cases h2 : 200 ≤ ms.length
    · rw [if_pos h2] at he; simp at he
    rw [if_neg h2] at he
    by_cases h3 : limF l0 l1 (3 - leadr ms) ≤ (madeN ms (3 - leadr ms) : Int)
    · rw [if_pos h3] at he; simp at he
    rw [if_neg h3] at he
    by_cases h4 : (legL l ms).length = 0
    · rw [if_pos h4] at he; simp at he
    exact ⟨h1, by omega, fun e => h4 (by rw [e]; rfl), he', rfl⟩
  · rw [if_neg he] at h; exact absurd rfl h

/-! What a player chooses. -/
def cntA (l : List (Int × Int)) (x : Int) : Nat := l.countP fun p => p.2 == x
def keyF (l : List (Int × Int)) (s : Int) (m : Mv) : Int := if s = 2 then - m.2.2.2 else if s = 3 then (cntA l m.2.2.1 : Int) else 0
def minS (l : List (Int × Int)) (s : Int) (m x : Mv) : Mv := if keyF l s x < keyF l s m then x else m
def minF (l : List (Int × Int)) (s : Int) : List Mv → Mv
  | [] => (0, 0, 0, 0)
  | m :: r => r.foldl (minS l s) m
theorem minF_mem {l : List (Int × Int)} {s : Int} {a : List Mv} (h : a ≠ []) : minF l s a ∈ a := by
  cases a with
  | nil => exact absurd rfl h
  | cons m r =>
    have key : ∀ (r : List Mv) (m : Mv) (a : List Mv), m ∈ a → (∀ x ∈ r, x ∈ a) → r.foldl (minS l s) m ∈ a := fun r => by
      induction r with
      | nil => intro m a hm _; exact hm
      | cons x r ih =>
        intro m a hm hr
        rw [List.foldl_cons]
        refine ih _ a ?_ fun y hy => hr y (by simp [hy])
        unfold minS; split
        · exact hr x (by simp)
        · exact hm
    exact key r m (m :: r) (by simp) fun x hx => by simp [hx]
def poolB (pool : List Int) (m : Mv) : Bool := pool.contains m.2.2.1
def chooseF (l : List (Int × Int)) (ms : List Mv) (pool : List Int) (s : Int) : Mv :=
  if ((legL l ms).filter (poolB pool)).length = 0 then (3 - leadr ms, 4, 0, 0) else minF l s ((legL l ms).filter (poolB pool))
/-- a move that may be made -/
def MayB (l : List (Int × Int)) (ms : List Mv) (m : Mv) : Prop := m ∈ legL l ms ∨ m = (3 - leadr ms, 4, 0, 0)
theorem choose_may (l : List (Int × Int)) (ms : List Mv) (pool : List Int) (s : Int) : MayB l ms (chooseF l ms pool s) := by
  unfold chooseF
  split
  · exact .inr rfl
  · next h => exact .inl (List.mem_filter.1 (minF_mem (l := l) (s := s) (a := (legL l ms).filter (poolB pool)) fun e => h (by rw [e]; rfl))).1
theorem OkM.snoc {l : List (Int × Int)} {ms : List Mv} (h : OkM ms) (hl : (lastM ms).2.1 ≠ 4) {m : Mv} (hm : MayB l ms m) : OkM (ms ++ [m]) := by
  have hp := h.pos
  have hk : ∀ i, i < ms.length → (mv ms i).2.1 ≠ 4 := fun i hi => by
    by_cases e : i + 1 = ms.length
    · unfold lastM at hl; rw [show i = ms.length - 1 by omega]; exact hl
    · exact h.k4 (by omega)
  have hB : m.1 = 3 - leadr ms := by
    rcases hm with hm | rfl
    · obtain ⟨_, _, hx⟩ := mem_legL.1 hm
      obtain ⟨_, _, _, _, _, rfl⟩ := mem_legAt.1 hx
      rfl
    · rfl
  refine ⟨by simp, by rw [mv_app m hp]; exact h.head, fun i hi => ?_, fun i h0 hi => ?_⟩
  · rw [List.length_append, List.length_singleton] at hi
    by_cases e : i < ms.length
    · rw [mv_app m e]; exact h.who i e
    · obtain rfl : i = ms.length := by omega
      rw [mv_last, hB]
      rcases leadr_12 ms with e | e <;> rw [e] <;> simp
  · rw [List.length_append, List.length_singleton] at hi ⊢
    by_cases e : i < ms.length
    · rw [mv_app m e]
      obtain ⟨t, e1, e2, e3⟩ := h.rest i h0 e
      refine ⟨t, e1, e2, ?_⟩
      rcases e3 with e3 | e3
      · exact .inl e3
      · exact absurd e3.1 (hk i e)
    · obtain rfl : i = ms.length := by omega
      rw [mv_last]
      rcases hm with hm | rfl
      · obtain ⟨t, ht, hx⟩ := mem_legL.1 hm
        obtain ⟨_, _, _, _, _, rfl⟩ := mem_legAt.1 hx
        exact ⟨t, rfl, ht, .inl rfl⟩
      · exact ⟨0, rfl, hp, .inr ⟨rfl, rfl⟩⟩
/-- what a run makes of a dialogue -/
def runG (l0 l1 : Int) (l : List (Int × Int)) (p1 p2 : List Int) (s1 s2 : Int) : Nat → List Mv → List Mv
  | 0, ms => ms
  | f + 1, ms => if turnF l0 l1 l ms = 0 then ms else runG l0 l1 l p1 p2 s1 s2 f (ms ++ [chooseF l ms (if turnF l0 l1 l ms = 1 then p1 else p2) (if turnF l0 l1 l ms = 1 then s1 else s2)])
def clm (root : Int) : List Mv := [(1, 1, root, 0)]
theorem clm_len (root : Int) : (clm root).length = 1 := rfl
theorem clm_ok (root : Int) : OkM (clm root) := by
  refine ⟨Nat.one_pos, rfl, fun i hi => ?_, fun i h0 hi => ?_⟩
  · rw [clm_len] at hi
    obtain rfl : i = 0 := by omega
    exact .inl rfl
  · rw [clm_len] at hi; omega
end Go.Proofs.YthkknlnfdckdfaaGreatDoor
