/- The plain law of TopCarried: the moves of a run are few, can be written as numbers and read again, and each beginning of a dialogue is one. -/
import Derived.Test.YthkknlnfdckdfaaRg2
namespace Go.Proofs.Ythkknlnfdckdfaa
open Go.ChangeShapes Go.WideShapes Go.ChangeAt Go.RowKit

theorem PlayL.take {l0 l1 : Int} {l : List (Int × Int)} {root : Int} {ms : List Mv} (h : PlayL l0 l1 l root ms) {k : Nat} (h0 : 0 < k) (hk : k ≤ ms.length) : PlayL l0 l1 l root (ms.take k) := by
  have e : (ms.take k).length = k := by rw [List.length_take]; omega
  refine ⟨by omega, by rw [mv_take h0 hk]; exact h.head, fun i hi hi2 => ?_⟩
  rw [e] at hi2
  have := h.step i hi (by omega)
  rw [mv_take hi2 hk, List.take_take, Nat.min_eq_left (by omega)]
  exact this
theorem PlayL.snoc {l0 l1 : Int} {l : List (Int × Int)} {root : Int} {ms : List Mv} (h : PlayL l0 l1 l root ms) (ht : turnF l0 l1 l ms ≠ 0) {m : Mv} (hm : MayB l ms m) : PlayL l0 l1 l root (ms ++ [m]) := by
  refine ⟨by simp, by rw [mv_app m h.pos]; exact h.head, fun i hi hi2 => ?_⟩
  rw [List.length_append, List.length_singleton] at hi2
  by_cases e : i < ms.length
  · rw [mv_app m e, List.take_append_of_le_length (by omega)]; exact h.step i hi e
  · obtain rfl : i = ms.length := by omega
    rw [mv_last, List.take_left]
    exact ⟨ht, hm⟩
theorem PlayL.ofClm (l0 l1 : Int) (l : List (Int × Int)) (root : Int) : PlayL l0 l1 l root (clm root) := ⟨Nat.one_pos, rfl, fun k h0 hk => by rw [clm_len] at hk; omega⟩
theorem PlayL.run {l0 l1 : Int} {l : List (Int × Int)} {root : Int} {p1 p2 : List Int} {s1 s2 : Int} : ∀ (f : Nat) (ms : List Mv), PlayL l0 l1 l root ms → PlayL l0 l1 l root (runG l0 l1 l p1 p2 s1 s2 f ms)
  | 0, _, h => h
  | f + 1, ms, h => by
    unfold runG
    by_cases e : turnF l0 l1 l ms = 0
    · rw [if_pos e]; exact h
    · rw [if_neg e]; exact PlayL.run f _ (h.snoc e (choose_may ..))
theorem madeR_app (ms : List Mv) (m : Mv) (b : Int) : ∀ k, k ≤ ms.length → madeR (ms ++ [m]) b k = madeR ms b k
  | 0, _ => rfl
  | k + 1, h => by
    show madeR (ms ++ [m]) b k + (if (mv (ms ++ [m]) k).1 = b then 1 else 0) = madeR ms b k + (if (mv ms k).1 = b then 1 else 0)
    rw [madeR_app ms m b k (by omega), mv_app m (by omega)]
theorem madeN_snoc (ms : List Mv) (m : Mv) (b : Int) : madeN (ms ++ [m]) b = madeN ms b + if m.1 = b then 1 else 0 := by
  unfold madeN
  rw [List.length_append, List.length_singleton]
  show madeR (ms ++ [m]) b ms.length + (if (mv (ms ++ [m]) ms.length).1 = b then 1 else 0) = _
  rw [madeR_app _ _ _ _ (Nat.le_refl _), mv_last]
theorem turn_made {l : List (Int × Int)} {ms : List Mv} (h : turnF 9 9 l ms ≠ 0) : madeN ms (3 - leadr ms) < 9 := by
  have he := (turn_run h).2.2.2.1
  have hl : ∀ b, limF 9 9 b = 9 := fun b => by unfold limF; split <;> rfl
  unfold endF at he
  by_cases h1 : (lastM ms).2.1 = 4
  · rw [if_pos h1] at he; simp at he
  rw [if_neg h1] at he
  by_cases h2 : 200 ≤ ms.length
  · rw [if_pos h2] at he; simp at he
  rw [if_neg h2] at he
  by_cases h3 : limF 9 9 (3 - leadr ms) ≤ (madeN ms (3 - leadr ms) : Int)
  · rw [if_pos h3] at he; simp at he
  rw [hl] at h3
  omega
theorem MayB.who {l : List (Int × Int)} {ms : List Mv} {m : Mv} (hm : MayB l ms m) : m.1 = 3 - leadr ms := by
  rcases hm with hm | rfl
  · obtain ⟨_, _, hx⟩ := mem_legL.1 hm
    obtain ⟨_, _, _, _, _, rfl⟩ := mem_legAt.1 hx
    rfl
  · rfl
theorem PlayL.made {l : List (Int × Int)} {root : Int} {ms : List Mv} (h : PlayL 9 9 l root ms) (b : Int) : ∀ k, 0 < k → k ≤ ms.length → madeN (ms.take k) b ≤ 9
  | 0, h0, _ => by omega
  | 1, _, _ => by
    rw [take_one h.pos]
    exact Nat.le_trans (madeR_le _ _ _) (by simp)
  | k + 2, _, hk => by
    rw [take_next (by omega), madeN_snoc]
    have ih := PlayL.made h b (k + 1) (by omega) (by omega)
    obtain ⟨h1, h2⟩ := h.step (k + 1) (by omega) (by omega)
    have h3 := turn_made h1
    split
    · next e => rw [h2.who] at e; rw [e] at h3; omega
    · omega
theorem made_sum {ms : List Mv} (h : OkM ms) : ∀ k, k ≤ ms.length → madeR ms 1 k + madeR ms 2 k = k
  | 0, _ => rfl
  | k + 1, hk => by
    show (madeR ms 1 k + (if (mv ms k).1 = 1 then 1 else 0)) + (madeR ms 2 k + (if (mv ms k).1 = 2 then 1 else 0)) = k + 1
    have ih := made_sum h k (by omega)
    rcases h.who k (by omega) with e | e
    · rw [e, if_pos rfl, if_neg (by omega)]; omega
    · rw [e, if_pos rfl, if_neg (by omega)]; omega
theorem PlayL.okM {l0 l1 : Int} {l : List (Int × Int)} {root : Int} {ms : List Mv} (h : PlayL l0 l1 l root ms) : OkM ms := by
  have := h.ok ms.length h.pos (Nat.le_refl _)
  rwa [List.take_length] at this
theorem PlayL.len18 {l : List (Int × Int)} {root : Int} {ms : List Mv} (h : PlayL 9 9 l root ms) : ms.length ≤ 18 := by
  have h1 := h.made 1 ms.length h.pos (Nat.le_refl _)
  have h2 := h.made 2 ms.length h.pos (Nat.le_refl _)
  rw [List.take_length] at h1 h2
  have := made_sum h.okM ms.length (Nat.le_refl _)
  unfold madeN at h1 h2
  omega

/-! Moves as numbers. -/
def codeM (m : Mv) : Int := ((m.1 * 8 + m.2.1) * 1024 + m.2.2.1) * 1024 + m.2.2.2
def moveM (n : Int) : Mv := (n / 8388608, n / 1048576 % 8, n / 1024 % 1024, n % 1024)
def SmM (m : Mv) : Prop := 1 ≤ m.1 ∧ m.1 ≤ 2 ∧ 0 ≤ m.2.1 ∧ m.2.1 < 8 ∧ 0 ≤ m.2.2.1 ∧ m.2.2.1 < 1024 ∧ 0 ≤ m.2.2.2 ∧ m.2.2.2 < 1024
theorem move_code {m : Mv} (h : SmM m) : moveM (codeM m) = m := by
  obtain ⟨a, b, c, d⟩ := m
  unfold SmM at h
  simp only at h
  unfold moveM codeM
  simp only [Prod.mk.injEq]
  exact ⟨by omega, by omega, by omega, by omega⟩
theorem code_bd {m : Mv} (h : SmM m) : 0 ≤ codeM m ∧ codeM m < 33554432 := by
  unfold SmM at h; unfold codeM; omega
theorem PlayL.sm {l0 l1 : Int} {l : List (Int × Int)} {root : Int} {ms : List Mv} (h : PlayL l0 l1 l root ms) (hr0 : 0 ≤ root) (hr1 : root < 1024) (hl : ∀ p ∈ l, 0 ≤ p.1 ∧ p.1 < 1024) : ∀ m ∈ ms, SmM m := fun m hm => by
  obtain ⟨i, hi, rfl⟩ := List.getElem_of_mem hm
  rw [← mv_at hi]
  have hok := h.okM
  have hlen := h.len
  have hw := hok.who i hi
  by_cases h0 : i = 0
  · subst h0
    rw [h.head]
    unfold SmM; simp only; omega
  · have hk := hok.k2 (by omega) hi
    obtain ⟨ht, ht2⟩ := hok.tg (by omega) hi
    have hn : 0 ≤ (mv ms i).2.2.1 ∧ (mv ms i).2.2.1 < 1024 := by
      rcases (h.step i (by omega) hi).2 with hx | hx
      · obtain ⟨_, _, hx⟩ := mem_legL.1 hx
        obtain ⟨_, _, p, hp, _, e⟩ := mem_legAt.1 hx
        rw [e]; exact hl p hp
      · rw [hx]; simp
    unfold SmM
    omega
theorem take_move {ms : List Mv} (h : ∀ m ∈ ms, SmM m) (r : Nat) : ((ms.map codeM).take r).map moveM = ms.take r := by
  rw [← List.map_take, List.map_map]
  have : ∀ m ∈ ms.take r, (moveM ∘ codeM) m = id m := fun m hm => move_code (h m (List.mem_of_mem_take hm))
  rw [List.map_congr_left this, List.map_id]
end Go.Proofs.Ythkknlnfdckdfaa
