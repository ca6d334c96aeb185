import Derived.Test.YtncimnfhfomddaaDoorGnd
import Derived.Test.YtncimnfhfomddaaDoorNet
import Derived.Test.YtncimnfhfomddaaDoorPlf
import Derived.Test.YtncimnfhfomddaaDoorGam
import Derived.Shelf.SlSortCmp.NoneTotal
/- The discussion games in plain words: lines, legal moves, who wins. No program in sight. -/
namespace Go.Proofs.YtncimnfhfomddaaDoor

/-- the moves of the proponent, of the opponent -/
def proS : List Nat → List Nat
  | [] => []
  | [a] => [a]
  | a :: _ :: r => a :: proS r
def oppS : List Nat → List Nat
  | [] => []
  | [_] => []
  | _ :: b :: r => b :: oppS r
theorem proS_snoc (a : Nat) : ∀ l : List Nat, proS (l ++ [a]) = if l.length % 2 = 0 then proS l ++ [a] else proS l
  | [] => rfl
  | [_] => rfl
  | x :: y :: r => by
    have h := proS_snoc a r
    have e : (r.length + 1 + 1) % 2 = r.length % 2 := by omega
    simp only [List.cons_append, proS, h, List.length_cons, e]
    split <;> rfl
theorem oppS_snoc (a : Nat) : ∀ l : List Nat, oppS (l ++ [a]) = if l.length % 2 = 0 then oppS l else oppS l ++ [a]
  | [] => rfl
  | [_] => rfl
  | x :: y :: r => by
    have h := oppS_snoc a r
    have e : (r.length + 1 + 1) % 2 = r.length % 2 := by omega
    simp only [List.cons_append, oppS, h, List.length_cons, e]
    split <;> rfl
theorem proS_odd {l : List Nat} (h : l.length % 2 = 1) (a : Nat) : proS (l ++ [a]) = proS l := by rw [proS_snoc, if_neg (by omega)]
theorem proS_even {l : List Nat} (h : l.length % 2 = 0) (a : Nat) : proS (l ++ [a]) = proS l ++ [a] := by rw [proS_snoc, if_pos h]
theorem oppS_odd {l : List Nat} (h : l.length % 2 = 1) (a : Nat) : oppS (l ++ [a]) = oppS l ++ [a] := by rw [oppS_snoc, if_neg (by omega)]
theorem oppS_even {l : List Nat} (h : l.length % 2 = 0) (a : Nat) : oppS (l ++ [a]) = oppS l := by rw [oppS_snoc, if_pos h]
theorem lens_pro : ∀ l : List Nat, (proS l).length = (l.length + 1) / 2
  | [] => rfl
  | [_] => by simp [proS]
  | _ :: _ :: r => by simp only [proS, List.length_cons, lens_pro r]; omega
theorem lens_opp : ∀ l : List Nat, (oppS l).length = l.length / 2
  | [] => rfl
  | [_] => by simp [oppS]
  | _ :: _ :: r => by simp only [oppS, List.length_cons, lens_opp r]; omega
/-- whether a is a legal move behind a line; the games: 1 is the grounded one, 2 the credulous one -/
def lgB (k : Nat) (at_ : Nat → Nat → Bool) (line : List Nat) (a : Nat) : Bool :=
  if line.length % 2 = 1 then (if k = 1 then at_ a (line.getLastD 0) else !(oppS line).contains a && (proS line).any fun p => at_ a p)
  else at_ a (line.getLastD 0) && (if k = 1 then !(proS line).contains a else !at_ a a && (proS line).all fun p => !at_ a p && !at_ p a)
def lgL (n k : Nat) (at_ : Nat → Nat → Bool) (line : List Nat) : List Nat := (List.range n).filter (lgB k at_ line)
theorem mem_lg {n k : Nat} {at_ : Nat → Nat → Bool} {line : List Nat} {a : Nat} : a ∈ lgL n k at_ line ↔ a < n ∧ lgB k at_ line a = true := by unfold lgL; rw [List.mem_filter, List.mem_range]
theorem lg_o1 {at_ : Nat → Nat → Bool} {line : List Nat} (h : line.length % 2 = 1) (a : Nat) : lgB 1 at_ line a = at_ a (line.getLastD 0) := by unfold lgB; rw [if_pos h, if_pos rfl]
theorem lg_o2 {at_ : Nat → Nat → Bool} {line : List Nat} (h : line.length % 2 = 1) (a : Nat) : lgB 2 at_ line a = (!(oppS line).contains a && (proS line).any fun p => at_ a p) := by unfold lgB; rw [if_pos h, if_neg (by omega)]
theorem lg_p1 {at_ : Nat → Nat → Bool} {line : List Nat} (h : line.length % 2 = 0) (a : Nat) : lgB 1 at_ line a = (at_ a (line.getLastD 0) && !(proS line).contains a) := by unfold lgB; rw [if_neg (by omega), if_pos rfl]
theorem lg_p2 {at_ : Nat → Nat → Bool} {line : List Nat} (h : line.length % 2 = 0) (a : Nat) : lgB 2 at_ line a = (at_ a (line.getLastD 0) && (!at_ a a && (proS line).all fun p => !at_ a p && !at_ p a)) := by unfold lgB; rw [if_neg (by omega), if_neg (by omega)]
theorem last_snoc (l : List Nat) (a : Nat) : (l ++ [a]).getLastD 0 = a := by rw [List.getLastD_eq_getLast?]; simp
/-- who moves behind a line: 1 the proponent, 2 the opponent -/
def mvr (line : List Nat) : Nat := if line.length % 2 = 0 then 1 else 2
def winG (n k : Nat) (at_ : Nat → Nat → Bool) : Nat → List Nat → Nat
  | 0, _ => 0
  | f + 1, line => if (lgL n k at_ line).any (fun a => winG n k at_ f (line ++ [a]) == mvr line) then mvr line else 3 - mvr line
theorem winG_succ (n k : Nat) (at_ : Nat → Nat → Bool) (f : Nat) (line : List Nat) : winG n k at_ (f + 1) line = if (lgL n k at_ line).any (fun a => winG n k at_ f (line ++ [a]) == mvr line) then mvr line else 3 - mvr line := rfl
theorem win_odd {n k f : Nat} {at_ : Nat → Nat → Bool} {line : List Nat} (h : line.length % 2 = 1) : winG n k at_ (f + 1) line = if ∃ a, a < n ∧ lgB k at_ line a = true ∧ winG n k at_ f (line ++ [a]) = 2 then 2 else 1 := by
  have hm : mvr line = 2 := by unfold mvr; rw [if_neg (by omega)]
  rw [winG_succ, hm]
  by_cases e : ∃ a, a < n ∧ lgB k at_ line a = true ∧ winG n k at_ f (line ++ [a]) = 2
  · obtain ⟨a, h1, h2, h3⟩ := e
    rw [if_pos (List.any_eq_true.2 ⟨a, mem_lg.2 ⟨h1, h2⟩, by simp [h3]⟩), if_pos ⟨a, h1, h2, h3⟩]
  · rw [if_neg (fun h => e (by obtain ⟨a, h1, h2⟩ := List.any_eq_true.1 h; exact ⟨a, (mem_lg.1 h1).1, (mem_lg.1 h1).2, by simpa using h2⟩)), if_neg e]
theorem win_even {n k f : Nat} {at_ : Nat → Nat → Bool} {line : List Nat} (h : line.length % 2 = 0) : winG n k at_ (f + 1) line = if ∃ a, a < n ∧ lgB k at_ line a = true ∧ winG n k at_ f (line ++ [a]) = 1 then 1 else 2 := by
  have hm : mvr line = 1 := by unfold mvr; rw [if_pos h]
  rw [winG_succ, hm]
  by_cases e : ∃ a, a < n ∧ lgB k at_ line a = true ∧ winG n k at_ f (line ++ [a]) = 1
  · obtain ⟨a, h1, h2, h3⟩ := e
    rw [if_pos (List.any_eq_true.2 ⟨a, mem_lg.2 ⟨h1, h2⟩, by simp [h3]⟩), if_pos ⟨a, h1, h2, h3⟩]
  · rw [if_neg (fun h => e (by obtain ⟨a, h1, h2⟩ := List.any_eq_true.1 h; exact ⟨a, (mem_lg.1 h1).1, (mem_lg.1 h1).2, by simpa using h2⟩)), if_neg e]
theorem nodup_full {n : Nat} {l : List Nat} (h : l.Nodup) (hl : ∀ x ∈ l, x < n) (hn : n ≤ l.length) {a : Nat} (ha : a < n) : a ∈ l := by
  refine Classical.byContradiction fun hna => ?_
  have h2 : (a :: l).Nodup := List.nodup_cons.2 ⟨hna, h⟩
  have := nodup_len n ((a :: l).map Int.ofNat) (List.Pairwise.map _ (fun _ _ hne e => hne (Int.ofNat.inj e)) h2) fun x hx => by
    obtain ⟨y, hy, rfl⟩ := List.mem_map.1 hx
    rcases List.mem_cons.1 hy with rfl | hy
    · exact ⟨y, ha, rfl⟩
    · exact ⟨y, hl y hy, rfl⟩
  rw [List.length_map, List.length_cons] at this
  omega
section
variable {n : Nat} {at_ : Nat → Nat → Bool}
/-- the proponent wins the grounded game about a node that ranks -/
theorem gr_win {gr : Nat → Prop} {rk : Nat → Nat} (hdef : ∀ p, p < n → gr p → ∀ b, at_ b p = true → ∃ q, q < n ∧ gr q ∧ at_ q b = true ∧ rk q < rk p) :
    ∀ (r : Nat) (line : List Nat) (f : Nat), line.length % 2 = 1 → line.getLastD 0 < n → gr (line.getLastD 0) → rk (line.getLastD 0) = r → (∀ x ∈ proS line, x = line.getLastD 0 ∨ rk (line.getLastD 0) < rk x) → 2 * r + 1 ≤ f → winG n 1 at_ f line = 1 := by
  intro r
  induction r using Nat.strongRecOn
  rename_i r ih
  intro line f hodd hp hg hr hx hf
  obtain ⟨f, rfl⟩ : ∃ f', f = f' + 1 := ⟨f - 1, by omega⟩
  rw [win_odd hodd, if_neg]
  rintro ⟨a, ha, hl, hw⟩
  rw [lg_o1 hodd] at hl
  obtain ⟨q, hq, hgq, hqa, hrk⟩ := hdef _ hp hg a hl
  obtain ⟨f, rfl⟩ : ∃ f', f = f' + 1 := ⟨f - 1, by omega⟩
  have hev : (line ++ [a]).length % 2 = 0 := by rw [List.length_append, List.length_singleton]; omega
  rw [win_even hev, if_pos] at hw
  · cases hw
  have hpro := proS_odd hodd a
  refine ⟨q, hq, ?_, ?_⟩
  · rw [lg_p1 hev, last_snoc, hqa, Bool.true_and, hpro, Bool.not_eq_true', ← Bool.not_eq_true, List.contains_iff_mem]
    intro hm
    rcases hx q hm with e | e
    · rw [e] at hrk; omega
    · omega
  · have hod2 : (line ++ [a] ++ [q]).length % 2 = 1 := by rw [List.length_append, List.length_singleton]; omega
    refine ih (rk q) (by omega) _ _ hod2 (by rw [last_snoc]; exact hq) (by rw [last_snoc]; exact hgq) (by rw [last_snoc]) (fun x hx2 => ?_) (by omega)
    rw [last_snoc]
    rw [proS_even hev, hpro, List.mem_append, List.mem_singleton] at hx2
    rcases hx2 with hx2 | rfl
    · right
      rcases hx x hx2 with e | e
      · rw [e]; exact hrk
      · omega
    · exact .inl rfl
/-- the opponent wins the grounded game about another node -/
theorem gr_lose {gr : Nat → Prop} (hnot : ∀ p, p < n → ¬ gr p → ∃ b, b < n ∧ at_ b p = true ∧ ∀ q, q < n → at_ q b = true → ¬ gr q) :
    ∀ (m : Nat) (line : List Nat) (f : Nat), line.length % 2 = 1 → line.getLastD 0 < n → ¬ gr (line.getLastD 0) → (proS line).Nodup → (∀ x ∈ proS line, x < n) → n ≤ m + (proS line).length → 2 * m + 2 ≤ f → winG n 1 at_ f line = 2 := by
  intro m
  induction m with
  | zero =>
    intro line f hodd hp hg hnd hlt hm hf
    obtain ⟨b, hb, hbp, hbq⟩ := hnot _ hp hg
    obtain ⟨f, rfl⟩ : ∃ f', f = f' + 1 + 1 := ⟨f - 2, by omega⟩
    have hev : (line ++ [b]).length % 2 = 0 := by rw [List.length_append, List.length_singleton]; omega
    rw [win_odd hodd, if_pos]
    refine ⟨b, hb, by rw [lg_o1 hodd]; exact hbp, ?_⟩
    rw [win_even hev, if_neg]
    rintro ⟨q, hq, hl, -⟩
    rw [lg_p1 hev, Bool.and_eq_true, Bool.not_eq_true', ← Bool.not_eq_true, List.contains_iff_mem, proS_odd hodd] at hl
    exact hl.2 (nodup_full hnd hlt (by omega) hq)
  | succ m ih =>
    intro line f hodd hp hg hnd hlt hm hf
    obtain ⟨b, hb, hbp, hbq⟩ := hnot _ hp hg
    obtain ⟨f, rfl⟩ : ∃ f', f = f' + 1 + 1 := ⟨f - 2, by omega⟩
    have hev : (line ++ [b]).length % 2 = 0 := by rw [List.length_append, List.length_singleton]; omega
    rw [win_odd hodd, if_pos]
    refine ⟨b, hb, by rw [lg_o1 hodd]; exact hbp, ?_⟩
    rw [win_even hev, if_neg]
    rintro ⟨q, hq, hl, hw⟩
    rw [lg_p1 hev, last_snoc, Bool.and_eq_true, Bool.not_eq_true', ← Bool.not_eq_true, List.contains_iff_mem, proS_odd hodd] at hl
    have hod2 : (line ++ [b] ++ [q]).length % 2 = 1 := by rw [List.length_append, List.length_singleton]; omega
    have hpr : proS (line ++ [b] ++ [q]) = proS line ++ [q] := by rw [proS_even hev, proS_odd hodd]
    have := ih (line ++ [b] ++ [q]) f hod2 (by rw [last_snoc]; exact hq) (by rw [last_snoc]; exact hbq q hq hl.1)
      (by rw [hpr, List.nodup_append]; exact ⟨hnd, by simp, fun x hx y hy => by rw [List.mem_singleton] at hy; rintro rfl; subst hy; exact hl.2 hx⟩)
      (fun x hx => by rw [hpr, List.mem_append, List.mem_singleton] at hx; rcases hx with hx | rfl; exact hlt x hx; exact hq)
      (by rw [hpr, List.length_append, List.length_singleton]; omega) (by omega)
    rw [this] at hw; cases hw
/-- the proponent wins the credulous game within an admissible set -/
theorem cr_win {S : Nat → Prop} (hcf : ∀ p q, S p → S q → at_ p q = false) (hdef : ∀ p x, S p → at_ x p = true → ∃ y, y < n ∧ S y ∧ at_ y x = true) :
    ∀ (m : Nat) (line : List Nat) (f : Nat), line.length % 2 = 1 → (∀ p ∈ proS line, S p) → (oppS line).Nodup → (∀ x ∈ oppS line, x < n) → n ≤ m + (oppS line).length → 2 * m + 1 ≤ f → winG n 2 at_ f line = 1 := by
  intro m
  induction m with
  | zero =>
    intro line f hodd hS hnd hlt hm hf
    obtain ⟨f, rfl⟩ : ∃ f', f = f' + 1 := ⟨f - 1, by omega⟩
    rw [win_odd hodd, if_neg]
    rintro ⟨a, ha, hl, -⟩
    rw [lg_o2 hodd, Bool.and_eq_true, Bool.not_eq_true', ← Bool.not_eq_true, List.contains_iff_mem] at hl
    exact hl.1 (nodup_full hnd hlt (by omega) ha)
  | succ m ih =>
    intro line f hodd hS hnd hlt hm hf
    obtain ⟨f, rfl⟩ : ∃ f', f = f' + 1 + 1 := ⟨f - 2, by omega⟩
    rw [win_odd hodd, if_neg]
    rintro ⟨a, ha, hl, hw⟩
    rw [lg_o2 hodd, Bool.and_eq_true, Bool.not_eq_true', ← Bool.not_eq_true, List.contains_iff_mem, List.any_eq_true] at hl
    obtain ⟨hno, p, hp, hap⟩ := hl
    obtain ⟨y, hy, hSy, hya⟩ := hdef p a (hS p hp) hap
    have hev : (line ++ [a]).length % 2 = 0 := by rw [List.length_append, List.length_singleton]; omega
    have hod2 : (line ++ [a] ++ [y]).length % 2 = 1 := by rw [List.length_append, List.length_singleton]; omega
    rw [win_even hev, if_pos] at hw
    · cases hw
    have hpr : proS (line ++ [a]) = proS line := proS_odd hodd a
    have hop : oppS (line ++ [a] ++ [y]) = oppS line ++ [a] := by rw [oppS_even hev, oppS_odd hodd]
    refine ⟨y, hy, ?_, ?_⟩
    · rw [lg_p2 hev, last_snoc, hya, hcf y y hSy hSy, Bool.true_and, Bool.not_false, Bool.true_and, hpr, List.all_eq_true]
      intro q hq
      rw [hcf y q hSy (hS q hq), hcf q y (hS q hq) hSy]; rfl
    · refine ih _ _ hod2 (fun q hq => ?_) ?_ (fun x hx => ?_) (by rw [hop, List.length_append, List.length_singleton]; omega) (by omega)
      · rw [proS_even hev, hpr, List.mem_append, List.mem_singleton] at hq
        rcases hq with hq | rfl
        · exact hS q hq
        · exact hSy
      · rw [hop, List.nodup_append]
        exact ⟨hnd, by simp, fun x hx z hz => by rw [List.mem_singleton] at hz; rintro rfl; subst hz; exact hno hx⟩
      · rw [hop, List.mem_append, List.mem_singleton] at hx
        rcases hx with hx | rfl
        · exact hlt x hx
        · exact ha
/-- a credulous game that the proponent wins shows an admissible set -/
theorem cr_adm (hat : ∀ a b, at_ a b = true → a < n) : ∀ (m : Nat) (line : List Nat) (f : Nat), line.length % 2 = 1 → (∀ p ∈ proS line, p < n) → (∀ p ∈ proS line, ∀ q ∈ proS line, at_ p q = false) → (∀ o ∈ oppS line, ∃ p ∈ proS line, at_ p o = true) → (oppS line).Nodup → (∀ x ∈ oppS line, x < n) → n ≤ m + (oppS line).length → 2 * m + 2 ≤ f → winG n 2 at_ f line = 1 →
    ∃ S : List Nat, (∀ p ∈ proS line, p ∈ S) ∧ (∀ p ∈ S, p < n) ∧ (∀ p ∈ S, ∀ q ∈ S, at_ p q = false) ∧ ∀ p ∈ S, ∀ x, at_ x p = true → ∃ y ∈ S, at_ y x = true := by
  intro m
  induction m with
  | zero =>
    intro line f hodd hlt hcf hop hnd hol hm hf hw
    refine ⟨proS line, fun _ h => h, hlt, hcf, fun p hp x hx => hop x (nodup_full hnd hol (by omega) (hat x p hx))⟩
  | succ m ih =>
    intro line f hodd hlt hcf hop hnd hol hm hf hw
    obtain ⟨f, rfl⟩ : ∃ f', f = f' + 1 + 1 := ⟨f - 2, by omega⟩
    by_cases hl : ∃ a, a < n ∧ lgB 2 at_ line a = true
    · obtain ⟨a, ha, hla⟩ := hl
      have hev : (line ++ [a]).length % 2 = 0 := by rw [List.length_append, List.length_singleton]; omega
      have hne : winG n 2 at_ (f + 1) (line ++ [a]) ≠ 2 := fun e => by
        rw [win_odd hodd, if_pos ⟨a, ha, hla, e⟩] at hw; cases hw
      rw [win_even hev] at hne
      have hex : ∃ y, y < n ∧ lgB 2 at_ (line ++ [a]) y = true ∧ winG n 2 at_ f (line ++ [a] ++ [y]) = 1 := Classical.byContradiction fun h => hne (if_neg h)
      obtain ⟨y, hy, hly, hwy⟩ := hex
      have hpr : proS (line ++ [a]) = proS line := proS_odd hodd a
      have hpr2 : proS (line ++ [a] ++ [y]) = proS line ++ [y] := by rw [proS_even hev, hpr]
      have hop2 : oppS (line ++ [a] ++ [y]) = oppS line ++ [a] := by rw [oppS_even hev, oppS_odd hodd]
      have hod2 : (line ++ [a] ++ [y]).length % 2 = 1 := by rw [List.length_append, List.length_singleton]; omega
      rw [lg_o2 hodd, Bool.and_eq_true, Bool.not_eq_true', ← Bool.not_eq_true, List.contains_iff_mem] at hla
      rw [lg_p2 hev, last_snoc, hpr, Bool.and_eq_true, Bool.and_eq_true, Bool.not_eq_true', List.all_eq_true] at hly
      obtain ⟨hya, hyy, hyp⟩ := hly
      have hyp2 : ∀ p ∈ proS line, at_ y p = false ∧ at_ p y = false := fun p hp => by
        have := hyp p hp
        rw [Bool.and_eq_true, Bool.not_eq_true', Bool.not_eq_true'] at this
        exact this
      obtain ⟨S, h1, h2, h3, h4⟩ := ih (line ++ [a] ++ [y]) f hod2 (fun p hp => by rw [hpr2, List.mem_append, List.mem_singleton] at hp; rcases hp with hp | rfl; exact hlt p hp; exact hy)
        (fun p hp q hq => by
          rw [hpr2, List.mem_append, List.mem_singleton] at hp hq
          rcases hp with hp | rfl <;> rcases hq with hq | rfl
          · exact hcf p hp q hq
          · exact (hyp2 p hp).2
          · exact (hyp2 q hq).1
          · exact hyy)
        (fun o ho => by
          rw [hop2, List.mem_append, List.mem_singleton] at ho
          rcases ho with ho | rfl
          · obtain ⟨p, hp, e⟩ := hop o ho
            exact ⟨p, by rw [hpr2]; exact List.mem_append_left _ hp, e⟩
          · exact ⟨y, by rw [hpr2]; simp, hya⟩)
        (by rw [hop2, List.nodup_append]; exact ⟨hnd, by simp, fun x hx z hz => by rw [List.mem_singleton] at hz; rintro rfl; subst hz; exact hla.1 hx⟩)
        (fun x hx => by rw [hop2, List.mem_append, List.mem_singleton] at hx; rcases hx with hx | rfl; exact hol x hx; exact ha)
        (by rw [hop2, List.length_append, List.length_singleton]; omega) (by omega) hwy
      exact ⟨S, fun p hp => h1 p (by rw [hpr2]; exact List.mem_append_left _ hp), h2, h3, h4⟩
    · refine ⟨proS line, fun _ h => h, hlt, hcf, fun p hp x hx => hop x (Classical.byContradiction fun hno => hl ⟨x, hat x p hx, ?_⟩)⟩
      rw [lg_o2 hodd, Bool.and_eq_true, Bool.not_eq_true', ← Bool.not_eq_true, List.contains_iff_mem, List.any_eq_true]
      exact ⟨hno, p, hp, hx⟩
end
end Go.Proofs.YtncimnfhfomddaaDoor

/- The grounded set in the rounds in which it grows: what the games need of it. No program in sight. -/
namespace Go.Proofs.YtncimnfhfomddaaDoor
section
variable {n : Nat} {l : List (Int × Int)}
/-- whether node i is In from round k on -/
def gsF (n : Nat) (l : List (Int × Int)) (k i : Nat) : Bool := stL n l k i == 1
theorem gs_zero (i : Nat) : gsF n l 0 i = false := rfl
theorem gs_lt (hv : InR n l) {k i : Nat} (h : gsF n l k i = true) : i < n := ((stL_inv hv k).isIn i (beq_iff_eq.1 h)).1
/-- out at stage k exactly if a node that is In attacks it -/
theorem gs_out (hv : InR n l) {k a : Nat} : stL n l k a = 2 ↔ ∃ b, gsF n l k b = true ∧ att l b a := by
  have h := stL_inv hv k
  constructor
  · intro e
    obtain ⟨b, hb, e2⟩ := h.isOut a e
    exact ⟨b, beq_iff_eq.2 e2, hb⟩
  · rintro ⟨b, hb, e⟩
    exact h.outs b a (beq_iff_eq.1 hb) e
theorem gs_step (hv : InR n l) {k i : Nat} (hi : i < n) : gsF n l (k + 1) i = true ↔ gsF n l k i = true ∨ ∀ a, att l a i → ∃ b, gsF n l k b = true ∧ att l b a := by
  have h := stL_inv hv k
  have hs : stL n l (k + 1) i = nxL n l (stL n l k) i := rfl
  have hall : (∀ a, att l a i → ∃ b, gsF n l k b = true ∧ att l b a) ↔ ∀ a, att l a i → stL n l k a = 2 := ⟨fun hh a ha => (gs_out hv).2 (hh a ha), fun hh a ha => (gs_out hv).1 (hh a ha)⟩
  rw [hall]
  unfold gsF
  rw [beq_iff_eq, beq_iff_eq, hs]
  unfold nxL
  by_cases hf : frB n l (stL n l k) i = true
  · rw [if_pos hf]
    exact ⟨fun _ => .inr ((frB_iff hv).1 hf).2.2, fun _ => rfl⟩
  · rw [if_neg hf]
    by_cases hh : gHitB n l (stL n l k) i = true
    · rw [if_pos hh]
      obtain ⟨h3, _, a, ha, hfa⟩ := (gHitB_iff hv).1 hh
      have ha3 := ((frB_iff hv).1 hfa).2.1
      refine ⟨fun e => absurd e (by decide), fun e => ?_⟩
      rcases e with e | e
      · omega
      · have := e a ha; omega
    · rw [if_neg hh]
      refine ⟨.inl, fun e => ?_⟩
      rcases e with e | e
      · exact e
      · rcases h.rng i with e1 | e2 | e3
        · exact e1
        · obtain ⟨b, hb, eb⟩ := h.isOut i e2
          have := e b hb; omega
        · exact absurd ((frB_iff hv).2 ⟨hi, e3, e⟩) hf
theorem gs_mono (hv : InR n l) {k i : Nat} (h : gsF n l k i = true) : gsF n l (k + 1) i = true := (gs_step hv (gs_lt hv h)).2 (.inl h)
theorem gs_le (hv : InR n l) {k m i : Nat} (hk : k ≤ m) (h : gsF n l k i = true) : gsF n l m i = true := by
  obtain ⟨d, rfl⟩ := Nat.exists_eq_add_of_le hk
  induction d with
  | zero => exact h
  | succ d ih => exact gs_mono hv (ih (by omega))
theorem gs_stay (hv : InR n l) {k : Nat} (h : ∀ i, i < n → gsF n l (k + 1) i = gsF n l k i) : ∀ d i, i < n → gsF n l (k + d) i = gsF n l k i
  | 0, _, _ => rfl
  | d + 1, i, hi => by
    have ih := gs_stay hv h d
    have ih2 : ∀ b, gsF n l (k + d) b = true ↔ gsF n l k b = true := fun b => by
      constructor
      · intro hb; rw [← ih b (gs_lt hv hb)]; exact hb
      · intro hb; rw [ih b (gs_lt hv hb)]; exact hb
    rw [← h i hi, Bool.eq_iff_iff]
    show gsF n l (k + d + 1) i = true ↔ _
    rw [gs_step hv hi, gs_step hv hi, ih2]
    constructor
    · rintro (e | e)
      · exact .inl e
      · exact .inr fun a ha => by obtain ⟨b, hb, e2⟩ := e a ha; exact ⟨b, (ih2 b).1 hb, e2⟩
    · rintro (e | e)
      · exact .inl e
      · exact .inr fun a ha => by obtain ⟨b, hb, e2⟩ := e a ha; exact ⟨b, (ih2 b).2 hb, e2⟩
theorem gs_fin (i : Nat) : gsF n l n i = (grL n l i == 1) := rfl
theorem gs_more (hv : InR n l) (i : Nat) : gsF n l (n + 1) i = gsF n l n i := by
  have h := (rest_next hv (gr_rest hv)).1
  have : stL n l (n + 1) = stL n l n := h
  unfold gsF
  rw [this]
/-- the grounded set -/
def gsB (n : Nat) (l : List (Int × Int)) (i : Nat) : Bool := gsF n l n i
theorem gs_all (hv : InR n l) {k i : Nat} (h : gsF n l k i = true) : gsB n l i = true := by
  rcases Nat.le_total k n with e | e
  · exact gs_le hv e h
  · obtain ⟨d, rfl⟩ := Nat.exists_eq_add_of_le e
    have hi := gs_lt hv h
    have := gs_stay hv (fun i _ => gs_more hv i) d i hi
    unfold gsB
    rw [← this]; exact h
theorem gsB_lt (hv : InR n l) {i : Nat} (h : gsB n l i = true) : i < n := gs_lt hv h
/-- a node that is not in the set has an attacker that the set does not attack -/
theorem gs_not (hv : InR n l) {p : Nat} (hp : p < n) (h : gsB n l p = false) : ∃ b, b < n ∧ att l b p ∧ ∀ q, att l q b → gsB n l q = false := by
  have h1 : ¬ ∀ a, att l a p → ∃ b, gsF n l n b = true ∧ att l b a := fun e => by
    have := (gs_step hv hp).2 (.inr e)
    rw [gs_more hv] at this
    unfold gsB at h
    rw [h] at this; cases this
  obtain ⟨b, hb⟩ := Classical.not_forall.1 h1
  obtain ⟨hbp, hb2⟩ := Classical.not_imp.1 hb
  refine ⟨b, (att_lt hv hbp).1, hbp, fun q hq => ?_⟩
  cases e : gsB n l q
  · rfl
  · exact absurd ⟨q, e, hq⟩ hb2
/-- the stages at which a node is not yet In -/
def gsR (n : Nat) (l : List (Int × Int)) (i : Nat) : Nat := (List.range n).countP fun k => !gsF n l k i
theorem countP_range_le (p : Nat → Bool) (k n : Nat) (h : ∀ j, k ≤ j → p j = false) : (List.range n).countP p ≤ k := by
  induction n with
  | zero => exact Nat.zero_le _
  | succ n ih =>
    rw [List.range_succ, List.countP_append]
    by_cases e : k ≤ n
    · rw [show [n].countP p = 0 by simp [h n e]]; omega
    · have h1 : (List.range n).countP p ≤ n := Nat.le_trans List.countP_le_length (by simp)
      have h2 : [n].countP p ≤ 1 := Nat.le_trans List.countP_le_length (by simp)
      omega
theorem countP_range_ge (p : Nat → Bool) (k n : Nat) (hk : k ≤ n) (h : ∀ j, j < k → p j = true) : k ≤ (List.range n).countP p := by
  induction n with
  | zero => omega
  | succ n ih =>
    rw [List.range_succ, List.countP_append]
    by_cases e : k ≤ n
    · have := ih e; omega
    · have hk2 : k = n + 1 := by omega
      have h1 : (List.range n).countP p = n := by
        rw [List.countP_eq_length.2 (fun j hj => h j (by rw [List.mem_range] at hj; omega))]; simp
      have h2 : [n].countP p = 1 := by simp [h n (by omega)]
      omega
theorem gsR_le (hv : InR n l) {k i : Nat} (h : gsF n l k i = true) : gsR n l i ≤ k := countP_range_le _ k n fun j hj => by rw [gs_le hv hj h]; rfl
theorem gsR_gt (hv : InR n l) {k i : Nat} (hk : k < n) (h : gsF n l k i = false) : k < gsR n l i := countP_range_ge _ (k + 1) n hk fun j hj => by
  cases e : gsF n l j i
  · rfl
  · rw [gs_le hv (by omega) e] at h; cases h
theorem gsR_n (i : Nat) : gsR n l i ≤ n := Nat.le_trans List.countP_le_length (by simp)
/-- an attacker of a node that is In has an attacker of a lesser rank -/
theorem gs_def (hv : InR n l) {p : Nat} (h : gsB n l p = true) {b : Nat} (hb : att l b p) : ∃ q, q < n ∧ gsB n l q = true ∧ att l q b ∧ gsR n l q < gsR n l p := by
  have hp := gsB_lt hv h
  -- the last stage at which p is not In
  obtain ⟨k, hk, hkn, h0, h1⟩ : ∃ k, k + 1 ≤ n ∧ k < n ∧ gsF n l k p = false ∧ gsF n l (k + 1) p = true := by
    have key : ∀ m, gsF n l m p = true → m ≤ n → ∃ k, k + 1 ≤ n ∧ k < n ∧ gsF n l k p = false ∧ gsF n l (k + 1) p = true := by
      intro m
      induction m with
      | zero => intro e _; rw [gs_zero] at e; cases e
      | succ m ih =>
        intro e hm
        cases e2 : gsF n l m p
        · exact ⟨m, hm, hm, e2, e⟩
        · exact ih e2 (by omega)
    exact key n h (Nat.le_refl _)
  rcases (gs_step hv hp).1 h1 with e | e
  · rw [h0] at e; cases e
  · obtain ⟨q, hq, hqb⟩ := e b hb
    exact ⟨q, gs_lt hv hq, gs_all hv hq, hqb, Nat.lt_of_le_of_lt (gsR_le hv hq) (gsR_gt hv hkn h0)⟩
end
end Go.Proofs.YtncimnfhfomddaaDoor

/- Who wins the discussion games: the grounded set, the admissible sets. No program in sight. -/
namespace Go.Proofs.YtncimnfhfomddaaDoor
section
variable {n : Nat} {l : List (Int × Int)}
theorem best_gr (hv : InR n l) {i f : Nat} (hi : i < n) (hf : 2 * n + 2 ≤ f) : winG n 1 (attQ l) f [i] = if gsB n l i = true then 1 else 2 := by
  by_cases h : gsB n l i = true
  · rw [if_pos h]
    refine gr_win (gr := fun p => gsB n l p = true) (rk := gsR n l) (fun p hp hg b hb => ?_) (gsR n l i) [i] f rfl hi h rfl (fun x hx => ?_) (by have := gsR_n (n := n) (l := l) i; omega)
    · obtain ⟨q, h1, h2, h3, h4⟩ := gs_def hv hg (attQ_iff.1 hb)
      exact ⟨q, h1, h2, attQ_iff.2 h3, h4⟩
    · exact .inl (by simpa [proS] using hx)
  · rw [if_neg h]
    refine gr_lose (gr := fun p => gsB n l p = true) (fun p hp hg => ?_) n [i] f rfl hi h (by simp [proS]) (fun x hx => ?_) (by omega) (by omega)
    · obtain ⟨b, h1, h2, h3⟩ := gs_not hv hp (Bool.not_eq_true _ ▸ hg)
      exact ⟨b, h1, attQ_iff.2 h2, fun q _ hq => by rw [h3 q (attQ_iff.1 hq)]; simp⟩
    · have : x = i := by simpa [proS] using hx
      rw [this]; exact hi
theorem best_cr (hv : InR n l) {i f : Nat} (hi : i < n) (hs : attQ l i i = false) (hf : 2 * n + 2 ≤ f) : winG n 2 (attQ l) f [i] = if (srS n (attQ l) (n + 1) (1 <<< i)).isSome = true then 1 else 2 := by
  have hs0 : 1 <<< i < 2 ^ n := by rw [Nat.one_shiftLeft]; exact Nat.pow_lt_pow_right (by omega) hi
  have hb0 : ∀ j, (1 <<< i).testBit j = true ↔ j = i := fun j => by rw [Nat.one_shiftLeft, Nat.testBit_two_pow, decide_eq_true_iff]; exact eq_comm
  cases e : srS n (attQ l) (n + 1) (1 <<< i) with
  | some s =>
    rw [if_pos (show (some s).isSome = true from rfl)]
    obtain ⟨ha, hsub⟩ := srS_sound e
    have hlt := srS_lt hs0 e
    refine cr_win (S := fun p => s.testBit p = true) (fun p q hp hq => freeS_iff.1 ha.free p q (bit_lt hlt hp) (bit_lt hlt hq) hp hq) (fun p x hp hx => ?_) n [i] f rfl (fun p hp => ?_) (by simp [oppS]) (fun x hx => by simp [oppS] at hx) (by omega) (by omega)
    · obtain ⟨y, hy, sy, ey⟩ := hitX_iff.1 (openS_nil.1 ha.defd x (att_lt hv (attQ_iff.1 hx)).1 (foeS_iff.2 ⟨p, bit_lt hlt hp, hp, hx⟩))
      exact ⟨y, hy, sy, ey⟩
    · have : p = i := by simpa [proS] using hp
      rw [this]; exact hsub i ((hb0 i).2 rfl)
  | none =>
    rw [if_neg (show ¬ (none : Option Nat).isSome = true by simp)]
    obtain ⟨f, rfl⟩ : ∃ f', f = f' + 1 := ⟨f - 1, by omega⟩
    have h12 : winG n 2 (attQ l) (f + 1) [i] = 2 ∨ winG n 2 (attQ l) (f + 1) [i] = 1 := by rw [win_odd rfl]; split <;> simp
    rcases h12 with h | h
    · exact h
    exfalso
    obtain ⟨S, h1, h2, h3, h4⟩ := cr_adm (n := n) (fun a b hab => (att_lt hv (attQ_iff.1 hab)).1) n [i] (f + 1) rfl
      (fun p hp => by have : p = i := by simpa [proS] using hp
                      rw [this]; exact hi)
      (fun p hp q hq => by have : p = i := by simpa [proS] using hp
                           have h2 : q = i := by simpa [proS] using hq
                           rw [this, h2]; exact hs)
      (fun o ho => by simp [oppS] at ho) (by simp [oppS]) (fun x hx => by simp [oppS] at hx) (by omega) (by omega) h
    have hbit : ∀ j, (maskN (nodesB n fun j => decide (j ∈ S))).testBit j = true ↔ j ∈ S := fun j => by
      have := mask_nodesB (n := n) (p := fun j => decide (j ∈ S)) (j := j)
      rw [decide_eq_true_iff] at this
      exact this.trans ⟨fun h => h.2, fun h => ⟨h2 j h, h⟩⟩
    have ha : AdmS n (attQ l) (maskN (nodesB n fun j => decide (j ∈ S))) := ⟨freeS_iff.2 fun a b _ _ sa sb => h3 a ((hbit a).1 sa) b ((hbit b).1 sb), openS_nil.2 fun j hj hf => by
      obtain ⟨q, hq, sq, e⟩ := foeS_iff.1 hf
      obtain ⟨y, hy, e2⟩ := h4 q ((hbit q).1 sq) j e
      exact hitX_iff.2 ⟨y, h2 y hy, (hbit y).2 hy, e2⟩⟩
    exact srS_compl ha (k := n + 1) (s := 1 <<< i) (fun j _ e2 => by rw [(hb0 j).1 e2]; exact (hbit i).2 (h1 i (by simp [proS]))) (by omega) e
end
end Go.Proofs.YtncimnfhfomddaaDoor

/- Package network: Grounded. -/
namespace Go.Proofs.YtncimnfhfomddaaDoor
open Go.ChangeShapes Go.WideShapes Go.ChangeAt Go.RowKit

def vZ (m : Nat) : Value := .int .u64 (m : Int)
/-- the slice v, made by the call, holds the sets of the list -/
def OwnZ (w : World) (base : Nat) (v : Value) (l : List Nat) : Prop := w.ownsRow base 93 1 v l.length (l.map vZ)
theorem OwnZ.nil (w : World) (base : Nat) : OwnZ w base (.slice none 0 0) [] := World.ownsRow_nil w base _ _
theorem OwnZ.mono {w : World} {b b' : Nat} {v : Value} {l : List Nat} (h : OwnZ w b v l) (hb : b' ≤ b) : OwnZ w b' v l := ownsRow_mono h hb
theorem OwnZ.below {w w' : World} {b : Nat} {v : Value} {l : List Nat} (h : OwnZ w b v l) (hb : Below w.heap.size w w') : OwnZ w' b v l := ownsRow_below h hb
theorem OwnZ.form {w : World} {b : Nat} {v : Value} {l : List Nat} (h : OwnZ w b v l) : ∃ A c, v = .slice A l.length c ∧ RU w A l ∧ (A = none → l = []) ∧ ∀ b' o, A = some ⟨b', o, none⟩ → b ≤ b' ∧ b' < w.heap.size := by
  have h' := h
  obtain ⟨h1, h2⟩ := h
  rcases h2 with ⟨rfl, hn⟩ | ⟨g, cap, cur, rfl, hg, r⟩
  · have : l = [] := List.eq_nil_of_length_eq_zero hn
    subst this
    exact ⟨none, 0, rfl, fun k hk => absurd hk (by simp), fun _ => rfl, (fun b o e => by cases e)⟩
  · refine ⟨_, _, rfl, fun k hk => ⟨g, 0, rfl, ?_⟩, (fun e => by cases e), fun b' o e => ?_⟩
    · have hc := h'.cells (g := g) rfl k (vZ (l.getD k 0)) (by rw [List.getElem?_map, List.getElem?_eq_getElem hk, List.getD_eq_getElem?_getD, List.getElem?_eq_getElem hk]; rfl)
      rw [show (⟨g, 0, none⟩ : Addr).add k = ⟨g, 0 + k, none⟩ by unfold Addr.add; split <;> simp_all] at hc
      exact hc
    · injection e with e; injection e with e _ _; subst e
      exact World.ownsRow.lt h' g rfl
set_option maxRecDepth 100000 in
/-- append of one set; where the result lies -/
theorem wpList_appZ2 {ops : Array Oper} {rest : List Oper} {o : Oper} {a : Act} {Q : Exit → Act → World → Prop} (hgd : o.guard = none) (s x : Operand)
    (ho : o.op = .call { callee := .builtin .append, args := #[s, x], argTypes := #[95, 95] })
    (X : World) (base : Nat) (v : Value) (l : List Nat) (y : Nat) (hown : OwnZ X base v l) (hs : a.eval s = v) {gx : Nat} (hx : a.eval x = .slice (some ⟨gx, 0, none⟩) 1 1) (hgx : gx = X.heap.size)
    (hlen : l.length ≤ 1000000) (hbase : base ≤ X.heap.size)
    (h : ∀ v' w', OwnZ w' base v' (l ++ [y]) → Below base X w' → X.grownBy w' v.ownBlock → (v'.ownBlock = v.ownBlock ∨ ∀ k, v'.ownBlock = some k → X.heap.size ≤ k) → wpList Tryd.prog ops Q rest (a.put o.dst v') w') :
    wpList Tryd.prog ops Q (o :: rest) a (X.alloc (.cells #[.int .u64 (y : Int)] 93)) := by
  subst hgx
  obtain ⟨i0, hi, hz0, hz1, hz2⟩ := info_parts info_set
  have hbX : ∀ w', (X.alloc (.cells #[.int .u64 (y : Int)] 93)).grownBy w' v.ownBlock → Below base X w' ∧ X.grownBy w' v.ownBlock := fun w' hg =>
    ⟨((Below.refl base X).alloc hbase _).grown hg (by simp; omega) (fun k hk => ((World.ownsRow.alloc hown (.cells #[.int .u64 (y : Int)] 93)).lt k hk).1),
     ⟨hg.os, hg.tape, hg.output, Nat.le_trans (by simp) hg.size, fun k hk hne => (hg.block k (by simp; omega) hne).trans (Below.heap_alloc _ _ _ hk)⟩⟩
  have hgrow : ∀ (A : Option Addr) (cap : Nat), v = .slice A l.length cap → (A = none → l.length = 0 ∧ cap = 0) → cap < l.length + 1 → wpList Tryd.prog ops Q (o :: rest) a (X.alloc (.cells #[.int .u64 (y : Int)] 93)) := by
    intro A cap hv hA hfull
    have hA2 : ∀ b, A = some b → ∀ j u, (l.map vZ)[j]? = some u → (X.alloc (.cells #[.int .u64 (y : Int)] 93)).cell? (b.add j) = some u := by
      intro b hb j u hj
      rcases hown.2 with ⟨e, hn⟩ | ⟨g, cp, cur, e, hg, r⟩
      · rw [hv, hb] at e; cases e
      · have hc := (World.ownsRow.alloc hown (.cells #[.int .u64 (y : Int)] 93)).cells (g := g) (by rw [e]; rfl) j u hj
        rw [hv, hb] at e
        injection e with e _ _
        injection e with e
        rw [e]; exact hc
    refine wpList_append_grows (X.alloc (.cells #[.int .u64 (y : Int)] 93)) hgd s x 95 ho 93 i0 (.int .u64 0) 1 8 Tryd.underlying95 hi hz0 hz1 hz2 rfl (by decide) A l.length cap (l.map vZ) (by rw [hs, hv]) hA (by simp) hA2
      ⟨X.heap.size, 0, none⟩ 1 1 [.int .u64 (y : Int)] hx rfl (new_cell _ _ _) (by intro u hu; simp at hu; subst hu; rfl) hfull (by unfold maxLen; omega) (by omega) ?_
    intro v' w1 hown' hg
    have hsz : X.heap.size + 1 = (X.alloc (.cells #[.int .u64 (y : Int)] 93)).heap.size := by simp
    have hg2 : (X.alloc (.cells #[.int .u64 (y : Int)] 93)).grownBy w1 v.ownBlock := ⟨hg.os, hg.tape, hg.output, hg.size, fun k hk _ => hg.block k hk (by simp)⟩
    obtain ⟨h1, h2⟩ := hbX w1 hg2
    have ho' : OwnZ w1 (X.alloc (.cells #[.int .u64 (y : Int)] 93)).heap.size v' (l ++ [y]) := by unfold OwnZ; rw [List.length_append, List.map_append]; exact hown'
    exact h v' w1 (ho'.mono (by omega)) h1 h2 (.inr fun k hk => by have := (World.ownsRow.lt ho' k hk).1; omega)
  rcases hown.2 with ⟨e, hn⟩ | ⟨g, cap, cur, e, hg, hh, hn, hcap, hrest⟩
  · exact hgrow none 0 (by rw [e, hn]) (fun _ => ⟨hn, rfl⟩) (by omega)
  · by_cases hroom : l.length + 1 ≤ cap
    · subst e
      refine wpList_append_fits _ hgd s x 95 ho base 93 i0 1 Tryd.underlying95 hi hz1 g l.length cap (l.map vZ) hs (World.ownsRow.alloc hown _) ⟨X.heap.size, 0, none⟩ 1 1 [.int .u64 (y : Int)] hx rfl (new_cell _ _ _)
        (by intro u hu; simp at hu; subst hu; rfl) hroom ?_
      intro w1 hown' hg'
      obtain ⟨h1, h2⟩ := hbX w1 hg'
      refine h _ w1 ?_ h1 h2 (.inl rfl)
      unfold OwnZ; rw [List.length_append, List.map_append]; exact hown'
    · exact hgrow _ cap e (fun h => by cases h) (by omega)



section
variable {n : Nat} {l : List (Int × Int)}
/-- the set of round k, as a mask -/
def gsM (n : Nat) (l : List (Int × Int)) (k : Nat) : Nat := maskN (nodesB n (gsF n l k))
theorem bit_mask {p : Nat → Bool} {j : Nat} : (maskN (nodesB n p)).testBit j = (decide (j < n) && p j) := by
  rw [Bool.eq_iff_iff, Bool.and_eq_true, decide_eq_true_iff]
  exact mask_nodesB
theorem gsM_bit (hv : InR n l) (k j : Nat) : (gsM n l k).testBit j = gsF n l k j := by
  unfold gsM
  rw [bit_mask]
  cases e : gsF n l k j
  · rw [Bool.and_false]
  · rw [decide_eq_true (gs_lt hv e)]; rfl
theorem gsM_lt (hv : InR n l) (k : Nat) : gsM n l k < 2 ^ n := mask_lt hv.1 _
theorem gsM_zero (hv : InR n l) : gsM n l 0 = 0 := Nat.eq_of_testBit_eq fun j => by rw [gsM_bit hv, Nat.zero_testBit]; rfl
/-- the next set after the nodes below q -/
def nxM (n : Nat) (l : List (Int × Int)) (k q : Nat) : Nat := maskN (nodesB n fun i => gsF n l k i || (decide (i < q) && gsF n l (k + 1) i))
theorem nxM_lt (hv : InR n l) (k q : Nat) : nxM n l k q < 2 ^ n := mask_lt hv.1 _
theorem nxM_zero (k : Nat) : nxM n l k 0 = gsM n l k := by unfold nxM gsM; congr 1; exact nodesB_congr fun i _ => by simp
theorem nxM_all (hv : InR n l) (k : Nat) : nxM n l k n = gsM n l (k + 1) := by
  unfold nxM gsM
  congr 1
  refine nodesB_congr fun i hi => ?_
  rw [decide_eq_true hi, Bool.true_and]
  cases e : gsF n l k i
  · rfl
  · rw [gs_mono hv e]; rfl
theorem nxM_hit {k q : Nat} (hq : q < n) (h : gsF n l (k + 1) q = true) : nxM n l k q ||| 1 <<< q = nxM n l k (q + 1) := Nat.eq_of_testBit_eq fun j => by
  rw [bit_with]
  unfold nxM
  rw [bit_mask, bit_mask]
  by_cases e : j = q
  · subst e
    rw [decide_eq_true rfl, Bool.or_true, decide_eq_true hq, h, decide_eq_true (Nat.lt_succ_self _)]; simp
  · rw [decide_eq_false e, Bool.or_false, show decide (j < q + 1) = decide (j < q) from decide_eq_decide.2 (by omega)]
theorem nxM_miss {k q : Nat} (h : gsF n l (k + 1) q = gsF n l k q) : nxM n l k (q + 1) = nxM n l k q := by
  unfold nxM
  congr 1
  refine nodesB_congr fun i _ => ?_
  by_cases e : i = q
  · subst e; rw [h]; cases gsF n l k i <;> simp
  · rw [show decide (i < q + 1) = decide (i < q) from decide_eq_decide.2 (by omega)]
theorem minus_zero {a b : Nat} (ha : a < 18446744073709551616) (hb : b < 18446744073709551616) : minusN a b = 0 ↔ ∀ j, a.testBit j = true → b.testBit j = true := by
  constructor
  · intro h j hj
    have := testBit_minusN a b j hb ha
    rw [h, Nat.zero_testBit, hj] at this
    cases e : b.testBit j
    · rw [e] at this; cases this
    · rfl
  · intro h
    refine Nat.eq_of_testBit_eq fun j => ?_
    rw [testBit_minusN a b j hb ha, Nat.zero_testBit]
    cases e : a.testBit j
    · rfl
    · rw [h j e]; rfl
/-- the round's test at node q -/
theorem gs_test (hv : InR n l) {k q : Nat} (hq : q < n) : (((minusN ((byL n l).getD q 0) (orN (outL n l) (nodesB 64 (gsM n l k).testBit)) : Nat) : Int) == 0) = true → gsF n l (k + 1) q = true := fun h => by
  have hby : (byL n l).getD q 0 < 18446744073709551616 := by rw [byL_at hq]; exact u64_of hv.1 (mk_pow (inR_flip hv) q)
  have h0 : minusN ((byL n l).getD q 0) (orN (outL n l) (nodesB 64 (gsM n l k).testBit)) = 0 := by simpa using h
  rw [minus_zero hby (orN_lt64 hv _).1] at h0
  refine (gs_step hv hq).2 (.inr fun a ha => ?_)
  have h1 := h0 a (by rw [byL_at hq]; exact (has_mkM (inR_flip hv) q a).2 (att_flip.2 ha))
  rw [hit_bit hv (gsM_lt hv k)] at h1
  obtain ⟨b, _, hb, e⟩ := hitX_iff.1 h1
  rw [gsM_bit hv] at hb
  exact ⟨b, hb, attQ_iff.1 e⟩
theorem gs_test2 (hv : InR n l) {k q : Nat} (hq : q < n) : (((minusN ((byL n l).getD q 0) (orN (outL n l) (nodesB 64 (gsM n l k).testBit)) : Nat) : Int) == 0) = false → gsF n l (k + 1) q = gsF n l k q := fun h => by
  have hby : (byL n l).getD q 0 < 18446744073709551616 := by rw [byL_at hq]; exact u64_of hv.1 (mk_pow (inR_flip hv) q)
  cases e : gsF n l k q
  · cases e2 : gsF n l (k + 1) q
    · rfl
    · rcases (gs_step hv hq).1 e2 with e3 | e3
      · rw [e] at e3; cases e3
      · exfalso
        have h0 : minusN ((byL n l).getD q 0) (orN (outL n l) (nodesB 64 (gsM n l k).testBit)) = 0 := (minus_zero hby (orN_lt64 hv _).1).2 fun a ha => by
          rw [byL_at hq] at ha
          obtain ⟨b, hb, hba⟩ := e3 a (att_flip.1 ((has_mkM (inR_flip hv) q a).1 ha))
          rw [hit_bit hv (gsM_lt hv k)]
          exact hitX_iff.2 ⟨b, gs_lt hv hb, by rw [gsM_bit hv]; exact hb, attQ_iff.2 hba⟩
        rw [h0] at h; cases h
  · rw [gs_mono hv e]
theorem gs_rounds (hv : InR n l) {k : Nat} (h : ∀ q, q < k → gsM n l (q + 1) ≠ gsM n l q) : k ≤ n := round_le hv fun q hq hr => h q hq (by
  have e : stL n l (q + 1) = stL n l q := (rest_next hv hr).1
  unfold gsM gsF
  rw [e])
theorem gs_final (hv : InR n l) {k : Nat} (h : gsM n l (k + 1) = gsM n l k) (i : Nat) : gsF n l k i = gsB n l i := by
  have h1 : ∀ i, i < n → gsF n l (k + 1) i = gsF n l k i := fun i _ => by rw [← gsM_bit hv, h, gsM_bit hv]
  have h2 := gs_stay hv h1
  cases e : gsB n l i
  · cases e2 : gsF n l k i
    · rfl
    · rw [gs_all hv e2] at e; cases e
  · have hi := gsB_lt hv e
    rw [← h2 n i hi]
    exact gs_le hv (by omega) e
theorem all_nodes (hv : InR n l) : nodesB 64 (allN n).testBit = (List.range n).map Int.ofNat := by
  rw [nodes_filter (n := n) (q := fun _ => true) (by have := hv.1; omega) (fun j hj => by rw [testBit_allN]; simp [hj]) (fun j hj => by rw [testBit_allN]; simp; omega)]
  rw [List.filter_eq_self.2 (fun _ _ => rfl)]
end
/-- the call returns the sets of the rounds -/
def RetGd (n : Nat) (l : List (Int × Int)) (w : World) : Ending → World → Prop := fun e w' => ∃ (K : Nat) (A : Option Addr) (c : Nat), e = .returned (.slice A K c) ∧ K ≤ n ∧ (∀ i, gsF n l K i = gsB n l i) ∧ RU w' A ((List.range K).map fun k => gsM n l (k + 1)) ∧ Below w.heap.size w w'

set_option maxRecDepth 100000 in
set_option maxHeartbeats 8000000 in
theorem netGrounded_any {n : Nat} {l : List (Int × Int)} (hv : InR n l) (B O : Option Addr) (w : World) (hT : Tab w) (hr : NetR w n l B O) :
    Calls Tryd.prog 112 #[.agg #[.int .u64 ((allN n : Nat) : Int), .slice B n n, .slice O n n]] w (RetGd n l w) := by
  have hn := hv.1
  have hlist := fun W hTW => netList_any (allN n) (u64_of hn (allN_lt n)) W hTW
  rw [all_nodes hv] at hlist
  have Hlist := Lib.hid hlist
  clear hlist
  go_enter Tryd.func112, Tryd.ntmps112
  go_upto_region 1 with fail
  obtain ⟨W0, hW, kn, hb0, hs0⟩ := boxedN w 97 (.int .u64 ((allN n : Nat) : Int)) (.slice B n n) (.slice O n n)
  rw [hW]
  have hr0 := hr.below hb0
  have hT0 := hT.below hb0
  clear hW hr hT
  go_wp2_with fail
  go_loopw [3, 4] (fun t3 t4 wr => ∃ k : Nat, t4 = .int .u64 ((gsM n l k : Nat) : Int) ∧ OwnZ wr W0.heap.size t3 ((List.range k).map fun k => gsM n l (k + 1)) ∧ (∀ q, q < k → gsM n l (q + 1) ≠ gsM n l q) ∧ Below W0.heap.size W0 wr) (fun t3 _ _ => n - (match t3 with | .slice _ m _ => m | _ => 0))
  case atStart => exact ⟨0, by rw [gsM_zero hv]; rfl, OwnZ.nil _ _, fun q hq => absurd hq (Nat.not_lt_zero q), Below.refl _ _⟩
  case round =>
    obtain ⟨k, rfl, ho, hne, hbl⟩ := hrel
    obtain ⟨A3, c3, rfl, hru, -, -⟩ := OwnZ.form ho
    have hkn := gs_rounds hv hne
    rw [List.length_map, List.length_range] at ho ⊢
    have kr := kn.below hbl kn.lt
    have c0 : wr.cell? ⟨w.heap.size, 0, none⟩ = some (.int .u64 ((allN n : Nat) : Int)) := kr.cell 0
    have c1 : wr.cell? ⟨w.heap.size, 1, none⟩ = some (.slice B n n) := kr.cell 1
    have c2 : wr.cell? ⟨w.heap.size, 2, none⟩ = some (.slice O n n) := kr.cell 2
    have hrr := hr0.below hbl
    have hTr := hT0.below hbl
    have hhit := netHitS_any hv (gsM_lt hv k) B O wr hTr hrr
    have htst : ∀ q, q < n → (((minusN ((byL n l).getD q 0) (orN (outL n l) (nodesB 64 (gsM n l k).testBit)) : Nat) : Int) == 0) = true → gsF n l (k + 1) q = true := fun q hq h => gs_test hv hq h
    have htst2 : ∀ q, q < n → (((minusN ((byL n l).getD q 0) (orN (outL n l) (nodesB 64 (gsM n l k).testBit)) : Nat) : Int) == 0) = false → gsF n l (k + 1) q = gsF n l k q := fun q hq h => gs_test2 hv hq h
    have hH64 := (orN_lt64 hv (gsM n l k)).1
    generalize orN (outL n l) (nodesB 64 (gsM n l k).testBit) = H at hhit htst htst2 hH64
    have Hhit := Lib.hid hhit; have Ht1 := Lib.hid htst; have Ht2 := Lib.hid htst2; have Hne := Lib.hid hne; have Ho := Lib.hid ho; have HH := Lib.hid hH64
    clear hhit htst htst2 hne ho hru hH64
    go_wp2_with fail
    refine Hhit.out.mono ?_
    rintro e w2 ⟨rfl, hb2⟩
    have c0 := (hb2.cell (lt_of_cell c0)).trans c0
    have c1 := (hb2.cell (lt_of_cell c1)).trans c1
    have hr2 := hrr.below hb2
    have hT2 := hTr.below hb2
    have Ho2 := Lib.hid (OwnZ.below Ho.out hb2)
    have hbl2 := hbl.trans (hb2.mono hbl.size)
    clear hrr hTr kr c2
    go_wp2_with fail
    refine (Hlist.out w2 hT2).mono ?_
    rintro e w3 ⟨A4, c4, rfl, -, hri, -, hb3⟩
    have c1 := (hb3.cell (lt_of_cell c1)).trans c1
    have hr3 := hr2.below hb3
    have Ho3 := Lib.hid (OwnZ.below Ho2.out hb3)
    have hbl3 := hbl2.trans (hb3.mono hbl2.size)
    rw [List.length_map, List.length_range]
    clear Ho Ho2 hbl2 hr2 hT2 hb2 hb3 c0 hbl
    go_wp2_with fail
    go_loop [6, 17] (fun t6 t17 => ∃ q : Nat, q ≤ n ∧ t6 = .int .u64 ((nxM n l k q : Nat) : Int) ∧ t17 = .int .i64 (q : Int)) (fun _ t17 => n - (intOf t17).toNat)
    case atStart => exact ⟨0, Nat.zero_le _, by rw [nxM_zero], rfl⟩
    case round =>
      obtain ⟨q, hq, rfl, rfl⟩ := hrel
      by_cases hqn : q < n
      case pos =>
        obtain ⟨b, o, rfl, hc⟩ := hri.at_ (k := q) (by rw [List.length_map, List.length_range]; exact hqn)
        rw [List.getElem_map, List.getElem_range, Int.ofNat_eq_natCast] at hc
        obtain ⟨b2, o2, hB2, hc2⟩ := hr3.b q (by rw [byL_length]; exact hqn)
        have hby : (byL n l).getD q 0 < 18446744073709551616 := by rw [byL_at hqn]; exact u64_of hn (mk_pow (inR_flip hv) q)
        have hmin := u64_minus _ _ hby HH.out
        have ht1 := Ht1.out q hqn
        have ht2 := Ht2.out q hqn
        generalize minusN ((byL n l).getD q 0) H = mz at hmin ht1 ht2
        generalize (byL n l).getD q 0 = bq at hc2 hmin
        obtain ⟨tb, htb⟩ : ∃ tb, ((mz : Int) == 0) = tb := ⟨_, rfl⟩
        rw [htb] at ht1 ht2
        have hq0 : (0 : Int) ≤ (q : Int) := by omega
        have hq1 : (q : Int) < (n : Int) := by omega
        have hwi := netWith_any (nxM n l k q) q (u64_of hn (nxM_lt hv k q)) (by omega) w3
        have h1 := nxM_hit (l := l) (k := k) hqn
        have h2 := nxM_miss (n := n) (l := l) (k := k) (q := q)
        have Hwi := Lib.hid hwi
        subst hB2
        cases tb
        case false =>
          have Hmiss := Lib.hid (h2 (ht2 rfl))
          clear ht1 ht2 h1 h2 hwi hby
          go_wp2_with fail
          go_round
          case rel => exact ⟨q + 1, by omega, by rw [Hmiss.out], by go_num⟩
          case measure => simp [intOf]; omega
        case true =>
          have Hhit2 := Lib.hid (h1 (ht1 rfl))
          clear ht1 ht2 h1 h2 hwi hby
          go_wp2_with fail
          refine Hwi.out.mono ?_
          rintro e w4 ⟨rfl, rfl⟩
          go_wp2_with fail
          go_round
          case rel => exact ⟨q + 1, by omega, by rw [Hhit2.out], by go_num⟩
          case measure => simp [intOf]; omega
      case neg =>
      obtain rfl : q = n := by omega
      have hall := nxM_all hv k
      rw [hall]
      clear hri hr3 c1
      by_cases heq : gsM q l (k + 1) = gsM q l k
      · have hbe : (((gsM q l (k + 1) : Nat) : Int) == ((gsM q l k : Nat) : Int)) = true := by rw [heq]; simp
        have Hfin := Lib.hid (gs_final hv heq)
        clear heq hall
        go_wp2_with fail
        go_ret
        obtain ⟨A9, c9, e9, hru9, -, -⟩ := OwnZ.form Ho3.out
        rw [List.length_map, List.length_range] at e9
        injection e9 with e1 e2 e3
        subst e1
        exact ⟨k, _, _, rfl, hkn, Hfin.out, hru9, endB hb0 hbl3⟩
      · have hbe : (((gsM q l (k + 1) : Nat) : Int) == ((gsM q l k : Nat) : Int)) = false := by rw [beq_eq_false_iff_ne]; omega
        have Hneq := Lib.hid heq
        have hlen : ((List.range k).map fun k => gsM q l (k + 1)).length ≤ 1000000 := by rw [List.length_map, List.length_range]; omega
        have hsz := hbl3.size
        clear heq hall
        go_wp2_with (at_builtin; refine wpList_appZ2 (by rfl) _ _ (by rfl) w3 W0.heap.size _ ((List.range k).map fun k => gsM q l (k + 1)) (gsM q l (k + 1)) Ho3.out (by rfl) (by rfl) rfl hlen hsz ?_; intro v5 w5 ho5 hb5 hg5 hl5; (obtain ⟨A9, c9, rfl, -, -, -⟩ := OwnZ.form ho5); clear hg5 hl5)
        have hne' : ∀ q', q' < k + 1 → gsM q l (q' + 1) ≠ gsM q l q' := fun q' hq' => by
          rcases Nat.lt_or_ge q' k with h | h
          · exact Hne.out q' h
          · have : q' = k := by omega
            rw [this]; exact Hneq.out
        have hk1 := gs_rounds hv hne'
        have Hne' := Lib.hid hne'
        clear hne'
        go_roundw
        case rel => exact ⟨k + 1, rfl, by rw [List.length_append, List.length_map, List.length_range] at ho5; rw [List.range_succ, List.map_append]; exact ho5, Hne'.out, hbl3.trans hb5⟩
        case measure => simp; omega
end Go.Proofs.YtncimnfhfomddaaDoor

/- Package game: grounded: the closure that picks, the proponent's and the opponent's strategies. -/
namespace Go.Proofs.YtncimnfhfomddaaDoor
open Go.ChangeShapes Go.WideShapes Go.ChangeAt Go.RowKit

section
variable {n : Nat} {l : List (Int × Int)}
/-- the attackers of x that are In from round k + 1 on -/
def PLg (n : Nat) (l : List (Int × Int)) (k x : Nat) : List Nat := (List.range n).filter fun y => attQ l y x && (gsM n l (k + 1)).testBit y
def pickG (n : Nat) (l : List (Int × Int)) (K x : Nat) : Nat := match (List.range K).find? (fun k => !(PLg n l k x).isEmpty) with
  | some k => (PLg n l k x).headD 0
  | none => x
theorem mem_PLg (hv : InR n l) {k x y : Nat} : y ∈ PLg n l k x ↔ att l y x ∧ gsF n l (k + 1) y = true := by
  unfold PLg
  rw [List.mem_filter, List.mem_range, Bool.and_eq_true, attQ_iff, gsM_bit hv]
  exact ⟨fun h => h.2, fun h => ⟨(att_lt hv h.1).1, h⟩⟩
theorem gsR_at (hv : InR n l) {q : Nat} (h : gsB n l q = true) : gsF n l (gsR n l q) q = true := by
  cases e : gsF n l (gsR n l q) q
  · rcases Nat.lt_or_ge (gsR n l q) n with h1 | h1
    · have := gsR_gt hv h1 e; omega
    · rw [show gsR n l q = n by have := gsR_n (n := n) (l := l) q; omega] at e
      unfold gsB at h
      rw [h] at e; cases e
  · rfl
/-- the pick answers an attacker of a node that is In -/
theorem pickG_ok (hv : InR n l) {K : Nat} (hK : ∀ i, gsF n l K i = gsB n l i) {x a : Nat} (ha : gsB n l a = true) (hx : att l x a) : att l (pickG n l K x) x ∧ gsB n l (pickG n l K x) = true ∧ gsR n l (pickG n l K x) < gsR n l a := by
  obtain ⟨q, _, hq, hqx, hqr⟩ := gs_def hv ha hx
  have hrq := gsR_at hv hq
  have hr0 : gsR n l q ≠ 0 := fun e => by rw [e, gs_zero] at hrq; cases hrq
  have hKq : gsF n l K q = true := by rw [hK]; exact hq
  have hrK : gsR n l q ≤ K := gsR_le hv hKq
  unfold pickG
  cases e : (List.range K).find? (fun k => !(PLg n l k x).isEmpty) with
  | none =>
    exfalso
    have := List.find?_eq_none.1 e (gsR n l q - 1) (List.mem_range.2 (by omega))
    simp only [Bool.not_eq_true', Bool.not_eq_false, List.isEmpty_iff] at this
    have hm : q ∈ PLg n l (gsR n l q - 1) x := (mem_PLg hv).2 ⟨hqx, by rw [show gsR n l q - 1 + 1 = gsR n l q by omega]; exact hrq⟩
    rw [this] at hm; cases hm
  | some k =>
    have h1 := List.find?_some e
    have hkr : k ≤ gsR n l q - 1 := by
      refine Classical.byContradiction fun hlt => ?_
      obtain ⟨_, al, bs, hsp, hno⟩ := List.find?_eq_some_iff_append.1 e
      have hm : gsR n l q - 1 ∈ al := by
        have hal : al.length = k := by
          have h3 : (List.range K)[al.length]? = some k := by rw [hsp]; simp
          rw [List.getElem?_eq_some_iff] at h3
          obtain ⟨h4, h5⟩ := h3
          rw [List.getElem_range] at h5
          exact h5
        have h6 : al = List.range k := by
          have : al = (List.range K).take al.length := by rw [hsp]; simp
          rw [this, hal, List.take_range, Nat.min_eq_left]
          have h7 : al.length < (List.range K).length := by rw [hsp]; simp
          rw [List.length_range] at h7; omega
        rw [h6, List.mem_range]; omega
      have := hno _ hm
      simp only [Bool.not_not, List.isEmpty_iff] at this
      have hm2 : q ∈ PLg n l (gsR n l q - 1) x := (mem_PLg hv).2 ⟨hqx, by rw [show gsR n l q - 1 + 1 = gsR n l q by omega]; exact hrq⟩
      rw [this] at hm2; cases hm2
    cases e2 : PLg n l k x with
    | nil => rw [e2] at h1; simp at h1
    | cons y t =>
      have hy : y ∈ PLg n l k x := by rw [e2]; simp
      rw [mem_PLg hv] at hy
      have hy3 := gsR_le hv hy.2
      have h9 : (PLg n l k x).headD 0 = y := by rw [e2]; rfl
      show att l ((PLg n l k x).headD 0) x ∧ gsB n l ((PLg n l k x).headD 0) = true ∧ gsR n l ((PLg n l k x).headD 0) < gsR n l a
      rw [h9]
      exact ⟨hy.1, gs_all hv hy.2, by omega⟩
theorem nz_nodes {m : Nat} (hm : m < 18446744073709551616) : m = 0 ↔ nodesB 64 m.testBit = [] := by
  constructor
  · rintro rfl; exact nodesB_zero
  · intro h
    refine Classical.byContradiction fun h0 => ?_
    rw [nodesB_low m h0 hm] at h; cases h
end

set_option maxRecDepth 100000 in
set_option maxHeartbeats 4000000 in
theorem gGrounded1_any {n : Nat} {l : List (Int × Int)} (hv : InR n l) (B O A6 : Option Addr) (c6 K q6 q2 x : Nat) (hx : x < n) (hK : K ≤ n) (w : World) (hT : Tab w) (hr : NetR w n l B O) (hrd : RU w A6 ((List.range K).map fun k => gsM n l (k + 1)))
    (h6 : w.cell? ⟨q6, 0, none⟩ = some (.slice A6 K c6)) (h2 : Blk w q2 97 #[.int .u64 ((allN n : Nat) : Int), .slice B n n, .slice O n n]) :
    Calls Tryd.prog 113 #[.int .i64 (x : Int), .pointer (some ⟨q6, 0, none⟩), .pointer (some ⟨q2, 0, none⟩)] w (RetB (.int .i64 (pickG n l K x : Int)) w) := by
  have hn := hv.1
  have hby : (byL n l).getD x 0 < 18446744073709551616 := by rw [byL_at hx]; exact u64_of hv.1 (mk_pow (inR_flip hv) x)
  have hand : ∀ k, bits .and .u64 (((byL n l).getD x 0 : Nat) : Int) ((gsM n l (k + 1) : Nat) : Int) = (((byL n l).getD x 0 &&& gsM n l (k + 1) : Nat) : Int) := fun k => u64_and_nat _ _ hby (u64_of hn (gsM_lt hv _))
  have hlt : ∀ k, (byL n l).getD x 0 &&& gsM n l (k + 1) < 18446744073709551616 := fun k => Nat.lt_of_le_of_lt Nat.and_le_left hby
  have hbit : ∀ k, nodesB 64 ((byL n l).getD x 0 &&& gsM n l (k + 1)).testBit = (PLg n l k x).map Int.ofNat := fun k => pick_bit hv hx
  obtain ⟨b2, o2, hB2, hc2⟩ := hr.b x (by rw [byL_length]; exact hx)
  have c1 : w.cell? ⟨q2, 1, none⟩ = some (.slice B n n) := h2.cell 1
  have hx0 : (0 : Int) ≤ (x : Int) := by omega
  have hx1 : (x : Int) < (n : Int) := by omega
  have hpk : ∀ k, k < K → (∀ j, j < k → PLg n l j x = []) → PLg n l k x ≠ [] → pickG n l K x = (PLg n l k x).headD 0 := fun k hk h1 h2 => by
    have : (List.range K).find? (fun k => !(PLg n l k x).isEmpty) = some k := by
      rw [List.find?_eq_some_iff_append]
      refine ⟨by simpa using h2, List.range k, (List.range K).drop (k + 1), ?_, fun j hj => by rw [h1 j (List.mem_range.1 hj)]; rfl⟩
      have e1 : (List.range K) = (List.range K).take k ++ (List.range K).drop k := (List.take_append_drop k _).symm
      rw [List.take_range, Nat.min_eq_left (by omega)] at e1
      rw [List.drop_eq_getElem_cons (by rw [List.length_range]; exact hk), List.getElem_range] at e1
      exact e1
    unfold pickG
    rw [this]
  have hpn : (∀ j, j < K → PLg n l j x = []) → pickG n l K x = x := fun h => by
    have : (List.range K).find? (fun k => !(PLg n l k x).isEmpty) = none := List.find?_eq_none.2 fun j hj => by rw [h j (List.mem_range.1 hj)]; simp
    unfold pickG
    rw [this]
  generalize (byL n l).getD x 0 = bx at *
  have Hand := Lib.hid hand; have Hlt := Lib.hid hlt; have Hbit := Lib.hid hbit; have Hpk := Lib.hid hpk; have Hpn := Lib.hid hpn
  subst hB2
  clear hand hlt hbit hpk hpn hby h2 hr
  go_enter Tryd.func113, Tryd.ntmps113
  go_wp2_with fail
  go_loop [9] (fun t9 => ∃ k : Nat, k ≤ K ∧ t9 = .int .i64 (k : Int) ∧ ∀ j, j < k → PLg n l j x = []) (fun t9 => K - (intOf t9).toNat)
  case atStart => exact ⟨0, Nat.zero_le _, rfl, fun j hj => absurd hj (Nat.not_lt_zero j)⟩
  case round =>
    obtain ⟨k, hk, rfl, hno⟩ := hrel
    have Hno := Lib.hid hno
    clear hno
    by_cases hkK : k < K
    case neg =>
      have e := Hpn.out (fun j hj => Hno.out j (by omega))
      have He := Lib.hid e
      clear e
      go_wp2_with fail
      go_ret
      exact ⟨by rw [He.out]; rfl, Below.refl _ _⟩
    case pos =>
    obtain ⟨b6, o6, hA6, hc6⟩ := hrd k (by rw [List.length_map, List.length_range]; exact hkK)
    have e6 : ((List.range K).map fun k => gsM n l (k + 1)).getD k 0 = gsM n l (k + 1) := by simp [List.getD_eq_getElem?_getD, hkK]
    rw [e6] at hc6
    have hand := Hand.out k
    have hnz := nz_nodes (Hlt.out k)
    rw [Hbit.out k, List.map_eq_nil_iff] at hnz
    subst hA6
    by_cases hem : PLg n l k x = []
    case pos =>
      have hz : ((((bx &&& gsM n l (k + 1) : Nat) : Int)) != 0) = false := by rw [hnz.2 hem]; rfl
      have Hem := Lib.hid hem
      clear hem hnz e6
      go_wp2_with fail
      go_round
      case rel =>
        refine ⟨k + 1, by omega, by go_num, fun j hj => ?_⟩
        rcases Nat.lt_or_ge j k with h | h
        · exact Hno.out j h
        · have : j = k := by omega
          rw [this]; exact Hem.out
      case measure => simp [intOf]; omega
    case neg =>
      have hz : ((((bx &&& gsM n l (k + 1) : Nat) : Int)) != 0) = true := by
        have h0 : ¬ (bx &&& gsM n l (k + 1)) = 0 := fun e => hem (hnz.1 e)
        rw [bne_iff_ne]; omega
      have e := Hpk.out k hkK Hno.out hem
      have hfi := gFirst_any (bx &&& gsM n l (k + 1)) w hT (Hlt.out k) (by rw [Hbit.out k, List.length_map]; exact List.length_pos_iff.2 hem)
      rw [Hbit.out k, firstOf, ← e] at hfi
      have Hfi := Lib.hid hfi
      clear e hem hnz hfi e6
      go_wp2_with fail
      refine Hfi.out.mono ?_
      rintro e w1 ⟨rfl, hb1⟩
      go_wp2_with fail
      go_ret
      exact ⟨rfl, hb1⟩
end Go.Proofs.YtncimnfhfomddaaDoor

/- Package game: grounded. -/
namespace Go.Proofs.YtncimnfhfomddaaDoor
open Go.ChangeShapes Go.WideShapes Go.ChangeAt Go.RowKit

set_option maxHeartbeats 1000000 in
theorem grounded2_any (x y : RpE) (w : World) : Calls Tryd.prog 116 #[.agg #[.int .i64 (x.1.1 : Int), .int .i64 (x.1.2 : Int)], .agg #[.int .i64 (y.1.1 : Int), .int .i64 (y.1.2 : Int)]] w (RetX (.int .i64 (cmpRp x y)) w) := by
  obtain ⟨⟨a, b⟩, ha⟩ := x
  obtain ⟨⟨c, d⟩, hc⟩ := y
  have e1 : wrap64 ((a : Int) - (c : Int)) = (a : Int) - (c : Int) := by have : a < 64 := ha; have : c < 64 := hc; unfold wrap64; omega
  go_enter Tryd.func116, Tryd.ntmps116
  go_wp2_with fail
  obtain ⟨W0, hW, k0, k1, _, _⟩ := boxed2 w 106 106 (.int .i64 (a : Int)) (.int .i64 (b : Int)) (.int .i64 (c : Int)) (.int .i64 (d : Int))
  have hG : Grew w W0 := by rw [← hW]; exact ((Grew.refl w).alloc _).alloc _
  rw [hW]
  obtain ⟨g0, g1, _, _⟩ := k0.two
  obtain ⟨g2, g3, _, _⟩ := k1.two
  clear hW
  go_wp2_with fail
  go_ret
  exact ⟨rfl, hG⟩
/-- the library's sort of the replies -/
theorem sortG_any (g c : Nat) (O : List (Nat × Nat)) (w : World) (hH : Go.Sort.HoldsK encP 2 w g 0 (O.map toI).toArray) (hO : ∀ p ∈ O, p.1 < 64) (hg : g < w.heap.size) (hl : O.length ≤ 100000) :
    Calls Tryd.prog 115 #[.slice (some ⟨g, 0, none⟩) O.length c, .func (.func 116) #[] #[]] w (fun e w' =>
      e = .returned (.tuple #[]) ∧ ∃ O' : List (Nat × Nat), O'.Perm O ∧ (O'.Pairwise fun p q => p.1 ≤ q.1) ∧ RP w' (some ⟨g, 0, none⟩) (O'.map toI) ∧ w.grownBy w' (some g) ∧ ∀ B, B ≤ g → Below B w w') := by
  obtain ⟨L, hL⟩ : ∃ L : List RpE, L.map (·.1) = O := ⟨O.attach.map fun x => ⟨x.1, hO x.1 x.2⟩, by rw [List.map_map]; exact List.attach_map_subtype_val O⟩
  have hlen : L.length = O.length := by rw [← hL, List.length_map]
  have hLm : (L.map fun x => toI x.1) = O.map toI := by rw [← hL, List.map_map]; rfl
  have hHS : Go.Sort.HoldsK encR 2 w g 0 L.toArray := by unfold Go.Sort.HoldsK at hH ⊢; rw [flat_rp, hLm]; exact hH
  have eg : ∀ args w, (callFunc 116 args).run Tryd.prog w = .ok (.enter 116 args) w := enters_of Tryd.func116 (by kernel_rfl) rfl
  have hcmp : CmpLays Tryd.prog 116 #[] encR 2 cmpRp g 0 L.toArray.size w := fun _ _ _ _ x y => (grounded2_any x y _).mono fun _ _ h => ⟨h.1, h.2⟩
  have h := AnyQ.slices_SortFunc sortR 2 isAggR sizeOfR encR (fun _ => rfl) (fun x v hv => by simp [encR] at hv; rcases hv with rfl | rfl <;> rfl) cmpRp swoRp 116 #[] g 0 c L.toArray w eg hcmp hHS hg (by simp; omega)
  rw [List.size_toArray, hlen] at h
  refine h.mono ?_
  rintro e w' ⟨rfl, d', n, os, ⟨hs, _, hp⟩, hso, rfl⟩
  have hs' : d'.size = O.length := by rw [hs, List.size_toArray, hlen]
  have hpp : d'.toList.Perm L := by
    have e1 : d'.extract 0 O.length = d' := by rw [← hs']; simp
    have e2 : L.toArray.extract 0 O.length = L.toArray := by rw [← hlen]; simp
    rw [e1, e2] at hp
    exact hp
  have hH' := holdsK_sortWorldK_c encR 2 w g 0 L.toArray d' n os hHS hg (by rw [List.size_toArray]; omega)
  have hd : Go.Sort.flatK encR 2 d' = Go.Sort.flatK encP 2 (d'.toList.map fun x => toI x.1).toArray := by rw [← flat_rp]
  have hR : RP (sortWorldK encR 2 w g 0 n d' os) (some ⟨g, 0, none⟩) ((d'.toList.map (·.1)).map toI) := by
    unfold Go.Sort.HoldsK at hH'
    rw [hd] at hH'
    rw [List.map_map]
    exact rp_of_holds hH'
  have hsz : w.heap.size ≤ (sortWorldK encR 2 w g 0 n d' os).heap.size := size_sortWorldK_c encR 2 w g 0 n d' os
  have hblk : ∀ k, k < w.heap.size → k ≠ g → (sortWorldK encR 2 w g 0 n d' os).heap[k]? = w.heap[k]? := fun k hk hne => by
    unfold sortWorldK
    rw [Go.Sort.heap_grow_old _ os (by rw [Go.Sort.size_putRowK]; exact hk)]
    unfold Go.Sort.putRowK Go.Sort.putRow Go.Sort.mapBlock
    simp only [Array.getElem?_modify, if_neg (fun e : g = k => hne e.symm)]
    rfl
  refine ⟨rfl, d'.toList.map (·.1), by rw [← hL]; exact hpp.map _, ?_, hR, ⟨rfl, rfl, rfl, hsz, fun k hk hne => hblk k hk (fun e => hne (congrArg some e))⟩, fun B hB => ⟨rfl, rfl, rfl, hsz, fun k hk => hblk k (by omega) (by omega)⟩⟩
  rw [List.pairwise_map, List.pairwise_iff_getElem]
  intro i j hi hj hij
  have h1 := hso i j (Nat.zero_le _) hij (by simp at hj; omega)
  rw [ltOf_cmpRp, decide_eq_false_iff_not] at h1
  rw [getElem!_pos _ i (by simpa using hi), getElem!_pos _ j (by simpa using hj)] at h1
  simp only [Array.getElem_toList]
  omega
theorem sortG_none (A : Option Addr) (c : Nat) (w : World) :
    Calls Tryd.prog 115 #[.slice A 0 c, .func (.func 116) #[] #[]] w (Ret (.tuple #[]) w) :=
  (AnyF.slices_SortFunc_none { sortR with } A c (.func (.func 116) #[] #[]) w).mono fun _ _ h => ⟨h.1, h.2.symm⟩

section
variable {n : Nat} {l : List (Int × Int)}
/-- the opponent's answer: an attacker that the grounded set does not attack -/
def pickO (n : Nat) (l : List (Int × Int)) (a : Nat) : Nat := ((List.range n).filter fun y => attQ l y a && !hitX n (attQ l) (gsM n l n) y).headD 0
theorem pickO_ok (hv : InR n l) {a : Nat} (ha : a < n) (h : gsB n l a = false) : pickO n l a < n ∧ att l (pickO n l a) a ∧ ∀ q, att l q (pickO n l a) → gsB n l q = false := by
  have hmem : ∀ y, y ∈ (List.range n).filter (fun y => attQ l y a && !hitX n (attQ l) (gsM n l n) y) ↔ att l y a ∧ ∀ q, att l q y → gsB n l q = false := fun y => by
    rw [List.mem_filter, List.mem_range, Bool.and_eq_true, attQ_iff, Bool.not_eq_true', ← Bool.not_eq_true, hitX_iff]
    constructor
    · rintro ⟨_, h1, h2⟩
      refine ⟨h1, fun q hq => ?_⟩
      cases e : gsB n l q
      · rfl
      · exact absurd ⟨q, gsB_lt hv e, by rw [gsM_bit hv]; exact e, attQ_iff.2 hq⟩ h2
    · rintro ⟨h1, h2⟩
      refine ⟨(att_lt hv h1).1, h1, ?_⟩
      rintro ⟨q, _, hq, e⟩
      rw [gsM_bit hv] at hq
      have := h2 q (attQ_iff.1 e)
      unfold gsB at this
      rw [hq] at this; cases this
  obtain ⟨b, hb, hba, hbq⟩ := gs_not hv ha h
  have hm := (hmem b).2 ⟨hba, hbq⟩
  unfold pickO
  cases e : (List.range n).filter (fun y => attQ l y a && !hitX n (attQ l) (gsM n l n) y) with
  | nil => rw [e] at hm; cases hm
  | cons y t =>
    have hy : y ∈ (List.range n).filter (fun y => attQ l y a && !hitX n (attQ l) (gsM n l n) y) := by rw [e]; simp
    rw [hmem] at hy
    exact ⟨(att_lt hv hy.1).1, hy.1, hy.2⟩
/-- while the opponent's replies are gathered -/
structure OgI (n : Nat) (l : List (Int × Int)) (root : Nat) (R : List Nat) (i : Nat) : Prop where
  nd : R.Nodup
  root : root ∈ R
  ok : ∀ a ∈ R, a < n ∧ gsB n l a = false
  cl : ∀ j, j < i → ∀ y, att l y (pickO n l (R.getD j 0)) → y ∈ R
structure OgOk (n : Nat) (l : List (Int × Int)) (root : Nat) (R : List Nat) (OO : List (Nat × Nat)) : Prop where
  root : root ∈ R
  ok : ∀ a ∈ R, a < n ∧ gsB n l a = false
  cl : ∀ a ∈ R, ∀ y, att l y (pickO n l a) → y ∈ R
  all : ∀ a ∈ R, (a, pickO n l a) ∈ OO
  o : ∀ p ∈ OO, p.1 ∈ R ∧ p.2 = pickO n l p.1
  asc : OO.Pairwise fun p q => p.1 < q.1
def rpO (n : Nat) (l : List (Int × Int)) (a : Nat) : Nat × Nat := (a, pickO n l a)
theorem OgI.more {root i : Nat} {R : List Nat} (h : OgI n l root R i) {y : Nat} (hy : y < n ∧ gsB n l y = false) (hn : y ∉ R) (hi : i ≤ R.length) : OgI n l root (R ++ [y]) i where
  nd := by
    rw [List.nodup_append]
    refine ⟨h.nd, by simp, fun a ha z hz => ?_⟩
    rw [List.mem_singleton] at hz
    rintro rfl
    subst hz
    exact hn ha
  root := List.mem_append_left _ h.root
  ok := fun a ha => by
    rw [List.mem_append, List.mem_singleton] at ha
    rcases ha with ha | rfl
    · exact h.ok a ha
    · exact hy
  cl := fun j hj z hz => by
    rw [List.getD_eq_getElem?_getD, List.getElem?_append_left (by omega), ← List.getD_eq_getElem?_getD] at hz
    exact List.mem_append_left _ (h.cl j hj z hz)
theorem OgI.len {root i : Nat} {R : List Nat} (h : OgI n l root R i) : R.length ≤ n := by
  have := nodup_len n (R.map Int.ofNat) (List.Pairwise.map _ (fun _ _ hne e => hne (Int.ofNat.inj e)) h.nd) fun x hx => by
    obtain ⟨a, ha, rfl⟩ := List.mem_map.1 hx
    exact ⟨a, (h.ok a ha).1, rfl⟩
  rwa [List.length_map] at this
theorem OgI.done {root : Nat} {R : List Nat} (h : OgI n l root R R.length) {OO : List (Nat × Nat)} (hp : OO.Perm (R.map (rpO n l))) (hs : OO.Pairwise fun p q => p.1 ≤ q.1) : OgOk n l root R OO where
  root := h.root
  ok := h.ok
  cl := fun a ha y hy => by
    obtain ⟨j, hj, e⟩ := List.getElem_of_mem ha
    exact h.cl j hj y (by rw [List.getD_eq_getElem?_getD, List.getElem?_eq_getElem hj]; show att l y (pickO n l R[j]); rw [e]; exact hy)
  all := fun a ha => hp.mem_iff.2 (List.mem_map.2 ⟨a, ha, rfl⟩)
  o := fun p hp' => by
    obtain ⟨a, ha, rfl⟩ := List.mem_map.1 (hp.mem_iff.1 hp')
    exact ⟨ha, rfl⟩
  asc := by
    have h0 : (R.map (rpO n l)).Pairwise fun p q => p.1 ≠ q.1 := by rw [List.pairwise_map]; exact h.nd
    have h1 : OO.Pairwise fun p q => p.1 ≠ q.1 := (hp.pairwise_iff (fun e => Ne.symm e)).2 h0
    exact (hs.and h1).imp fun ⟨a, b⟩ => by omega
end
/-- the grounded game's strategy -/
def RetGs (n : Nat) (l : List (Int × Int)) (root : Nat) (w : World) : Ending → World → Prop := fun e w' => Below w.heap.size w w' ∧ ∃ (R : List Nat) (OO : List (Nat × Nat)) (A : Option Addr) (c : Nat), OO.length ≤ n ∧ RP w' A (OO.map toI) ∧ (∀ b o, A = some ⟨b, o, none⟩ → w.heap.size ≤ b ∧ b < w'.heap.size) ∧
  ((gsB n l root = true ∧ e = .returned (.tuple #[.int .i64 1, .slice A OO.length c]) ∧ ∃ K, (∀ i, gsF n l K i = gsB n l i) ∧ AnOk n (attQ l) (pickG n l K) (fun a => gsB n l a = true) root R OO) ∨
   (gsB n l root = false ∧ e = .returned (.tuple #[.int .i64 2, .slice A OO.length c]) ∧ OgOk n l root R OO))
set_option maxRecDepth 100000 in
set_option maxHeartbeats 16000000 in
theorem gGrounded_any {n : Nat} {l : List (Int × Int)} (hv : InR n l) (gB gO root : Nat) (hroot : root < n) (w : World) (hT : Tab w) (hr : NetR w n l (some ⟨gB, 0, none⟩) (some ⟨gO, 0, none⟩)) :
    Calls Tryd.prog 76 #[.agg #[.int .u64 ((allN n : Nat) : Int), .slice (some ⟨gB, 0, none⟩) n n, .slice (some ⟨gO, 0, none⟩) n n], .int .i64 (root : Int)] w (RetGs n l root w) := by
  have hmf : ∀ fn first cap w, (Instr.makeFunc fn first cap).run Tryd.prog w = .ok (.func fn first cap) w := fun _ _ _ _ => rfl
  have hn := hv.1
  have HT := Lib.hid hT
  go_enter Tryd.func76, Tryd.ntmps76
  go_upto_region 1 with fail
  obtain ⟨W0, hW, kn, hb0, hs0⟩ := boxedN w 97 (.int .u64 ((allN n : Nat) : Int)) (.slice (some ⟨gB, 0, none⟩) n n) (.slice (some ⟨gO, 0, none⟩) n n)
  rw [hW]
  have hr0 := hr.below hb0
  have hT0 := hT.below hb0
  have c0 : W0.cell? ⟨w.heap.size, 0, none⟩ = some (.int .u64 ((allN n : Nat) : Int)) := kn.cell 0
  have c1 : W0.cell? ⟨w.heap.size, 1, none⟩ = some (.slice (some ⟨gB, 0, none⟩) n n) := kn.cell 1
  have c2 : W0.cell? ⟨w.heap.size, 2, none⟩ = some (.slice (some ⟨gO, 0, none⟩) n n) := kn.cell 2
  clear hW hr hT
  go_wp2_with fail
  refine (netGrounded_any hv _ _ W0 hT0 hr0).mono ?_
  rintro e w1 ⟨K, A6, c6, rfl, hKn, hKf, hru, hb1⟩
  have kn1 := kn.below hb1 kn.lt
  have hr1 := hr0.below hb1
  have hb01 := endB hb0 hb1
  clear c0 c1 c2 hT0 hr0 kn
  go_upto_region 2 with fail
  obtain ⟨W2, hW2, k6, hb2, hs2⟩ : ∃ W2, w1.alloc (.cells #[.slice A6 K c6] 95) = W2 ∧ Blk W2 w1.heap.size 95 #[.slice A6 K c6] ∧ Below w1.heap.size w1 W2 ∧ W2.heap.size = w1.heap.size + 1 := ⟨_, rfl, Blk.new _ _ _, newB _ _, by simp⟩
  rw [hW2]
  have kn2 := kn1.below hb2 kn1.lt
  have hr2 := hr1.below hb2
  have hru2 := hru.below hb2
  have hb02 := endB hb01 hb2
  have hT2 := HT.out.below hb02
  have d6 : W2.cell? ⟨w1.heap.size, 0, none⟩ = some (.slice A6 K c6) := k6.cell 0
  have hz : w.heap.size < w1.heap.size := Nat.lt_of_lt_of_le (by omega) hb1.size
  clear hW2 kn1 hr1 hru hb1 hb2 hb01
  generalize w1.heap.size = Q at *
  go_upto_if 19 with fail
  go_cut [7] (fun t7 wx => t7 = .int .u64 ((gsM n l K : Nat) : Int) ∧ wx = W2)
  case first =>
    by_cases hK0 : K = 0
    · subst hK0
      have e0 := gsM_zero hv
      go_wp2_with fail
      go_meet
      exact ⟨by rw [e0]; rfl, rfl⟩
    · have hpos : (0 : Int) < (K : Int) := by omega
      obtain ⟨b6, o6, hA6, hc6⟩ := hru2 (K - 1) (by rw [List.length_map, List.length_range]; omega)
      have e6 : ((List.range K).map fun k => gsM n l (k + 1)).getD (K - 1) 0 = gsM n l K := by
        rw [List.getD_eq_getElem?_getD, List.getElem?_eq_getElem (by rw [List.length_map, List.length_range]; omega), List.getElem_map, List.getElem_range]
        show gsM n l (K - 1 + 1) = _
        rw [show K - 1 + 1 = K by omega]
      rw [e6] at hc6
      have hw : wrap64 ((K : Int) - 1) = ((K - 1 : Nat) : Int) := by unfold wrap64; omega
      have h0 : (0 : Int) ≤ ((K - 1 : Nat) : Int) := by omega
      have h1 : ((K - 1 : Nat) : Int) < (K : Int) := by omega
      subst hA6
      clear e6
      go_wp2_with fail
      go_meet
      exact ⟨rfl, rfl⟩
  obtain ⟨rfl, rfl⟩ := hcut
  have hwc : w.heap.size < wc.heap.size := kn2.lt
  have hbit : (gsM n l K).testBit root = gsB n l root := by rw [gsM_bit hv, hKf]
  have hhas := netHas_any (gsM n l K) root (u64_of hn (gsM_lt hv K)) (by omega) wc
  rw [hbit] at hhas
  have c0 : wc.cell? ⟨w.heap.size, 0, none⟩ = some (.int .u64 ((allN n : Nat) : Int)) := kn2.cell 0
  have c1 : wc.cell? ⟨w.heap.size, 1, none⟩ = some (.slice (some ⟨gB, 0, none⟩) n n) := kn2.cell 1
  have c2 : wc.cell? ⟨w.heap.size, 2, none⟩ = some (.slice (some ⟨gO, 0, none⟩) n n) := kn2.cell 2
  have HKf := Lib.hid hKf
  clear hKf hbit
  cases hgr : gsB n l root
  case true =>
    have hP : gsB n l root = true := hgr
    have hpo : PickOk n (attQ l) (pickG n l K) (fun a => gsB n l a = true) := fun x a _ hPa hxa => by
      have h := pickG_ok hv HKf.out hPa (attQ_iff.1 hxa)
      exact ⟨(att_lt hv (attQ_iff.1 hxa)).1, gsB_lt hv h.2.1, h.2.1⟩
    have hans := gAnswers_any hv (some ⟨gB, 0, none⟩) (some ⟨gO, 0, none⟩) root hroot 113 (.pointer (some ⟨Q, 0, none⟩)) (.pointer (some ⟨w.heap.size, 0, none⟩)) (pickG n l K) (fun a => gsB n l a = true) hP hpo (fun x W => enters_of Tryd.func113 (by kernel_rfl) rfl _ _) wc hT2 hr2
      (fun x a hal hPa hxa W hbW => gGrounded1_any hv (some ⟨gB, 0, none⟩) (some ⟨gO, 0, none⟩) A6 c6 K Q w.heap.size x (att_lt hv (attQ_iff.1 hxa)).1 hKn W (hT2.below hbW) (hr2.below hbW) (hru2.below hbW) ((hbW.cell (lt_of_cell d6)).trans d6) (kn2.below hbW kn2.lt))
    have Hans := Lib.hid hans; have Hhas := Lib.hid hhas; have Hgr := Lib.hid hgr
    rw [hgr] at Hhas
    clear hans hpo hP hhas hgr hT2 hr2 hru2 k6 kn2 d6
    go_wp2_with fail
    refine Hhas.out.mono ?_
    rintro e w5 ⟨rfl, rfl⟩
    go_wp2_with fail
    refine Hans.out.mono ?_
    rintro e w7 ⟨R, OO, A', c', rfl, hok, hOl, hrp, hap, hb7⟩
    have Hok := Lib.hid hok; have Hrp := Lib.hid hrp; have Hap := Lib.hid hap; have Hb := Lib.hid (endB hb02 hb7)
    have hle := Nat.le_of_lt hwc
    clear hok hrp hap hb7
    go_wp2_with fail
    go_ret2
    exact ⟨Hb.out, R, OO, A', c', hOl, Hrp.out, fun b o e => ⟨by have := (Hap.out b o e).1; omega, (Hap.out b o e).2⟩, .inl ⟨Hgr.out, rfl, K, HKf.out, Hok.out⟩⟩
  case false =>
  rw [hgr] at hhas
  have eK : gsM n l K = gsM n l n := Nat.eq_of_testBit_eq fun j => by rw [gsM_bit hv, gsM_bit hv, HKf.out]; rfl
  have hhit := netHitS_any hv (gsM_lt hv K) (some ⟨gB, 0, none⟩) (some ⟨gO, 0, none⟩) wc hT2 hr2
  have hHb : ∀ j, (orN (outL n l) (nodesB 64 (gsM n l K).testBit)).testBit j = hitX n (attQ l) (gsM n l n) j := fun j => by rw [hit_bit hv (gsM_lt hv K), eK]
  have hH64 := (orN_lt64 hv (gsM n l K)).1
  generalize orN (outL n l) (nodesB 64 (gsM n l K).testBit) = H at hhit hHb hH64
  have Hhas := Lib.hid hhas; have Hgr := Lib.hid hgr; have Hhit := Lib.hid hhit; have HHb := Lib.hid hHb; have HH := Lib.hid hH64
  clear hhas hgr hhit hHb hH64 eK k6 d6 hru2
  go_wp2_with fail
  refine Hhas.out.mono ?_
  rintro e w5 ⟨rfl, rfl⟩
  go_wp2_with fail
  refine Hhit.out.mono ?_
  rintro e w6 ⟨rfl, hb6⟩
  have kn6 := kn2.below hb6 kn2.lt
  have hr6 := hr2.below hb6
  have hb06 := endB hb02 hb6
  have hw6 := Nat.lt_of_lt_of_le hwc hb6.size
  have HT6 := Lib.hid (HT.out.below hb06)
  clear c0 c1 c2 hT2 hr2 kn2 hb02 hb6
  go_wp2_with fail
  obtain ⟨W7, hW7, hst, hb7⟩ : ∃ W7, w6.alloc (.cells #[.int .i64 (root : Int)] 3) = W7 ∧ AnS w.heap.size n w6.heap.size (some ⟨gB, 0, none⟩) (some ⟨gO, 0, none⟩) w6 (.slice (some ⟨w6.heap.size, 0, none⟩) 1 1) [root] (.slice none 0 0) [] W7 ∧ Below w6.heap.size w6 W7 :=
    ⟨_, rfl, { r := own_one2 w6 root _ (Nat.le_refl _), o := OwnR.nil _ _, far := (Far.nil _).symm, hd := kn6.alloc _, bel := newB w6 _, pB := hw6, hB := Nat.le_refl _ }, newB _ _⟩
  rw [hW7]
  clear hW7 hb7 kn6
  go_wp2_with fail
  go_loopw [9, 10, 11] (fun t9 t10 t11 wr => ∃ (R : List Nat) (i : Nat), i ≤ R.length ∧ t11 = .int .i64 (i : Int) ∧ AnS w.heap.size n w6.heap.size (some ⟨gB, 0, none⟩) (some ⟨gO, 0, none⟩) w6 t9 R t10 ((R.take i).map (rpO n l)) wr ∧ OgI n l root R i) (fun _ _ t11 _ => n - (intOf t11).toNat)
  case atStart => exact ⟨[root], 0, Nat.zero_le _, rfl, hst, ⟨by simp, by simp, fun a ha => by rw [List.mem_singleton] at ha; subst ha; exact ⟨hroot, Hgr.out⟩, fun j hj => absurd hj (Nat.not_lt_zero j)⟩⟩
  case round =>
    clear hst
    obtain ⟨R, i, hi, rfl, hst, hog⟩ := hrel
    have hRl := hog.len
    obtain ⟨AR, cR, rfl, hri, -⟩ := OwnI.form hst.r
    rw [List.length_map] at hst ⊢
    have hbw6 := hst.bel
    have Hog := Lib.hid hog
    clear hog
    by_cases hlt : i < R.length
    case neg =>
      obtain rfl : i = R.length := by omega
      rw [List.take_length] at hst
      have hOl : (R.map (rpO n l)).length ≤ n := by rw [List.length_map]; exact hRl
      have hO64 : ∀ p ∈ R.map (rpO n l), p.1 < 64 := fun p hp => by
        obtain ⟨a, ha, rfl⟩ := List.mem_map.1 hp
        have := (Hog.out.ok a ha).1
        show a < 64
        omega
      have hbw : Below w.heap.size w wr := hb06.trans (hst.bel.mono hb06.size)
      have Hst := Lib.hid hst; have Hbw := Lib.hid hbw
      clear hri hst hbw hbw6
      rcases OwnR.form Hst.out.o with ⟨e9, e0⟩ | ⟨g, c9, e9, hg, hgl⟩
      · subst e9
        have hR0 : R.map (rpO n l) = [] := by simpa using e0
        have hend := Lib.hid (OgI.done Hog.out (OO := []) (by rw [hR0]) .nil)
        have hso := Lib.hid (sortG_none none 0 wr)
        clear e0 hR0 hOl hO64
        go_wp2_with fail
        refine hso.out.mono ?_
        rintro e w5 ⟨rfl, rfl⟩
        go_wp2_with fail
        go_ret2
        exact ⟨Hbw.out, R, [], none, 0, Nat.zero_le _, RP.nil _ _, (fun b o e => by cases e), .inr ⟨Hgr.out, rfl, hend.out⟩⟩
      · subst e9
        have hho := holds_of_ownR (l := (R.map (rpO n l)).map toI) Hst.out.o
        have hso := sortG_any g c9 (R.map (rpO n l)) wr hho hO64 hgl (by omega)
        rw [List.length_map] at hso hOl
        rw [List.length_map, List.length_map]
        have Hso := Lib.hid hso
        clear hho hso hO64
        go_wp2_with fail
        refine Hso.out.mono ?_
        rintro e w5 ⟨rfl, OO', hp, hsr, hrp, hgr, hbel⟩
        have hend := Lib.hid (OgI.done Hog.out hp hsr)
        have hlen' := hp.length_eq
        rw [List.length_map] at hlen'
        have hb55 := Lib.hid (hbel w6.heap.size hg)
        have Hrp := Lib.hid hrp; have Hlen := Lib.hid hlen'; have Hgr2 := Lib.hid hgr
        clear hp hsr hrp hbel hlen' hgr
        go_wp2_with fail
        go_ret2
        refine ⟨Hbw.out.trans (hb55.out.mono hb06.size), R, OO', some ⟨g, 0, none⟩, c9, by rw [Hlen.out]; exact hOl, Hrp.out, fun b o e => ?_, .inr ⟨Hgr.out, by rw [Hlen.out]; rfl, hend.out⟩⟩
        injection e with e; injection e with e1 e2 e3; subst e1
        exact ⟨Nat.le_trans hb06.size hg, Nat.lt_of_lt_of_le hgl Hgr2.out.size⟩
    case pos =>
    obtain ⟨a, ha⟩ : ∃ a, R[i] = a := ⟨_, rfl⟩
    have haR : a ∈ R := by rw [← ha]; exact List.getElem_mem _
    obtain ⟨han, hag⟩ := Hog.out.ok a haR
    obtain ⟨b, o, rfl, hc⟩ := hri.at_ (k := i) (by rw [List.length_map]; exact hlt)
    rw [List.getElem_map, ha, Int.ofNat_eq_natCast] at hc
    have c1 : wr.cell? ⟨w.heap.size, 1, none⟩ = some (.slice (some ⟨gB, 0, none⟩) n n) := hst.hd.cell 1
    have hrr := hr6.below hbw6
    have hTr := HT6.out.below hbw6
    obtain ⟨b2, o2, hB2, hc2⟩ := hrr.b a (by rw [byL_length]; exact han)
    injection hB2 with hB2; injection hB2 with e1 e2 _; subst e1; subst e2
    rw [Nat.zero_add] at hc2
    obtain ⟨hpn, hpa, hpq⟩ := pickO_ok hv han hag
    have hby : (byL n l).getD a 0 < 18446744073709551616 := by rw [byL_at han]; exact u64_of hn (mk_pow (inR_flip hv) a)
    have hmin := u64_minus _ _ hby HH.out
    have hmbit : nodesB 64 (minusN ((byL n l).getD a 0) H).testBit = ((List.range n).filter fun y => attQ l y a && !hitX n (attQ l) (gsM n l n) y).map Int.ofNat := by
      have e : ∀ j, (minusN ((byL n l).getD a 0) H).testBit j = (attQ l j a && !hitX n (attQ l) (gsM n l n) j) := fun j => by
        rw [testBit_minusN _ _ j HH.out hby, HHb.out, byL_at han]
        congr 1
        rw [Bool.eq_iff_iff, attQ_iff]
        exact (has_mkM (inR_flip hv) a j).trans att_flip
      refine nodes_filter (by omega) (fun j _ => e j) fun j hj => ?_
      rw [e]
      cases h : attQ l j a
      · rfl
      · have := (att_lt hv (attQ_iff.1 h)).1; omega
    have hfi := gFirst_any (minusN ((byL n l).getD a 0) H)
    have hmlt : minusN ((byL n l).getD a 0) H < 18446744073709551616 := Nat.lt_of_le_of_lt (minusN_le _ _) hby
    rw [hmbit, firstOf] at hfi
    have hlen1 : 0 < (((List.range n).filter fun y => attQ l y a && !hitX n (attQ l) (gsM n l n) y).map Int.ofNat).length := by
      rw [List.length_map]
      obtain ⟨bb, hb, hba, hbq⟩ := gs_not hv han hag
      refine List.length_pos_of_mem (a := bb) (List.mem_filter.2 ⟨List.mem_range.2 hb, ?_⟩)
      rw [attQ_iff.2 hba, Bool.true_and, Bool.not_eq_true', ← Bool.not_eq_true, hitX_iff]
      rintro ⟨q, _, hq, e⟩
      rw [gsM_bit hv] at hq
      have := hbq q (attQ_iff.1 e)
      unfold gsB at this
      rw [hq] at this; cases this
    have hfi2 : ∀ W, Tab W → Calls Tryd.prog 80 #[.int .u64 ((minusN ((byL n l).getD a 0) H : Nat) : Int)] W (RetB (.int .i64 (pickO n l a : Int)) W) := fun W hTW => hfi W hTW hmlt hlen1
    obtain ⟨b3, o3, hB3, hc3⟩ := hr6.b (pickO n l a) (by rw [byL_length]; exact hpn)
    injection hB3 with hB3; injection hB3 with e1 e2 _; subst e1; subst e2
    rw [Nat.zero_add] at hc3
    have hlist := netList_any ((byL n l).getD (pickO n l a) 0) (by rw [byL_at hpn]; exact u64_of hn (mk_pow (inR_flip hv) (pickO n l a)))
    rw [by_bit hv hpn] at hlist
    have hys : ∀ y ∈ (List.range n).filter (fun y => attQ l y (pickO n l a)), y < n ∧ gsB n l y = false := fun y hy => by
      rw [List.mem_filter, List.mem_range] at hy; exact ⟨hy.1, hpq y (attQ_iff.1 hy.2)⟩
    have hys2 : ∀ y, att l y (pickO n l a) → y ∈ (List.range n).filter (fun y => attQ l y (pickO n l a)) := fun y hy => List.mem_filter.2 ⟨List.mem_range.2 (att_lt hv hy).1, attQ_iff.2 hy⟩
    have hyl : ((List.range n).filter (fun y => attQ l y (pickO n l a))).length ≤ 1000 := by have := List.length_filter_le (fun y => attQ l y (pickO n l a)) (List.range n); simp at this; omega
    have hrpO : rpO n l a = (a, pickO n l a) := rfl
    generalize (List.range n).filter (fun y => attQ l y (pickO n l a)) = ys at *
    generalize hmm : minusN ((byL n l).getD a 0) H = mm at *
    generalize (byL n l).getD a 0 = ba at *
    generalize hpx : (byL n l).getD (pickO n l a) 0 = bp at *
    generalize hpp : pickO n l a = px at *
    have Hfi := Lib.hid hfi2; have Hlist := Lib.hid hlist; have Hys := Lib.hid hys; have Hys2 := Lib.hid hys2; have Ha := Lib.hid ha; have Hst := Lib.hid hst; have Hpp := Lib.hid hpp; have HrpO := Lib.hid hrpO
    have hi0 : (0 : Int) ≤ (i : Int) := by omega
    have hi1 : (i : Int) < (R.length : Int) := by omega
    have ha0 : (0 : Int) ≤ (a : Int) := by omega
    have ha1 : (a : Int) < (n : Int) := by omega
    have hp0 : (0 : Int) ≤ (px : Int) := by omega
    have hp1 : (px : Int) < (n : Int) := by omega
    clear hfi2 hfi hlist hys hys2 ha hst hpp hpx hmm hlen1 hmlt hmbit hby hpq hpa hrr hri hrpO
    go_wp2_with fail
    refine wp_region_textB [10] (fun w' => Below wr.heap.size wr w') (fun _ => True) (by kernel_rfl) (by kernel_rfl) (by kernel_rfl) (Below.refl _ _).drew trivial ?_
    repeat (first
      | (refine TxtBL.skip (by rfl) ?_; simp only [Act.put, List.setIfInBounds_toArray, List.set_cons_zero, List.set_cons_succ])
      | (refine TxtBL.take (by rfl) (by rfl) ?_; apply Exists.intro; refine ⟨fun w1 hS1 => ?_, ?_⟩; (focus ((have g1 := (hS1.cell (lt_of_cell c1)).trans c1); (have g2 := (hS1.cell (lt_of_cell hc)).trans hc); (have g3 := (hS1.cell (lt_of_cell hc2)).trans hc2); go_simp; with_reducible rfl)); simp only [Act.put, List.setIfInBounds_toArray, List.set_cons_zero, List.set_cons_succ])
      | (refine TxtBL.takeE (by rfl) (by rfl) ?_; apply Exists.intro; refine ⟨fun w1 hS1 => ?_, ?_⟩; (focus ((have g1 := (hS1.cell (lt_of_cell c1)).trans c1); (have g2 := (hS1.cell (lt_of_cell hc)).trans hc); (have g3 := (hS1.cell (lt_of_cell hc2)).trans hc2); go_simp; with_reducible rfl)); simp only [Act.put, List.setIfInBounds_toArray, List.set_cons_zero, List.set_cons_succ]))
    refine TxtBL.call (f := 80) (args := #[.int .u64 (mm : Int)]) (fun u => u = .int .i64 (px : Int)) (fun _ _ => True) (by rfl) (by rfl) ⟨_, rfl⟩ (fun w1 hS1 hJ1 => by go_simp) (fun w2 hS2 hJ1 => ?_) ?_
    · refine (Hfi.out w2 (hTr.below hS2)).mono ?_
      rintro e w' ⟨rfl, hb⟩
      exact ⟨_, rfl, hS2.trans (hb.mono hS2.size), rfl, trivial⟩
    rintro _ rfl
    simp only [Act.put, List.setIfInBounds_toArray, List.set_cons_zero, List.set_cons_succ]
    repeat (first
      | (refine TxtBL.skip (by rfl) ?_; simp only [Act.put, List.setIfInBounds_toArray, List.set_cons_zero, List.set_cons_succ])
      | (refine TxtBL.take (by rfl) (by rfl) ?_; apply Exists.intro; refine ⟨fun w1 hS1 => ?_, ?_⟩; (focus (skip; go_simp; with_reducible rfl)); simp only [Act.put, List.setIfInBounds_toArray, List.set_cons_zero, List.set_cons_succ])
      | (refine TxtBL.takeE (by rfl) (by rfl) ?_; apply Exists.intro; refine ⟨fun w1 hS1 => ?_, ?_⟩; (focus (skip; go_simp; with_reducible rfl)); simp only [Act.put, List.setIfInBounds_toArray, List.set_cons_zero, List.set_cons_succ]))
    refine TxtBL.nil (fun W3 hS3 _ => ?_)
    have hst3 := Hst.out.below hS3
    have hc := (hS3.cell (lt_of_cell hc)).trans hc
    have hlo3 : (((R.take i).map (rpO n l)).map toI).length ≤ 1000000 := by rw [List.length_map, List.length_map, List.length_take]; omega
    have Hst3 := Lib.hid hst3
    have hTk : (R.take i).map (rpO n l) ++ [(a, px)] = (R.take (i + 1)).map (rpO n l) := by rw [List.take_succ_eq_append_getElem hlt, List.map_append, Ha.out, List.map_singleton, HrpO.out]
    have HTk := Lib.hid hTk
    clear hst3 c1 hc2 Hst hTr hTk hbw6 hmin
    go_wp2_with (at_builtin; refine wpList_appR2 (by rfl) _ _ (by rfl) W3 w6.heap.size _ _ (toI (a, px)) Hst3.out.o (by rfl) (by rfl) hlo3 Hst3.out.size ?_; intro v5 w5 ho5 hb5 hg5 hl5; (have hst5 := Lib.hid (Hst3.out.moreO (OO' := (R.take (i + 1)).map (rpO n l)) (by rw [← HTk.out, List.map_append]; exact ho5) hb5 hg5 hl5)); (have c1 : w5.cell? ⟨w.heap.size, 1, none⟩ = some (.slice (some ⟨gB, 0, none⟩) n n) := hst5.out.hd.cell 1); (have hc3 := (hst5.out.bel.cell (lt_of_cell hc3)).trans hc3); clear ho5 hb5 hg5 hl5)
    refine (Hlist.out w5 (HT6.out.below hst5.out.bel)).mono ?_
    rintro e w8 ⟨A7, c7, rfl, hoy, -, -, hb8⟩
    have hst8 := hst5.out.below hb8
    have hlo : ∀ k, (Value.slice A7 (ys.map Int.ofNat).length c7).ownBlock = some k → w5.heap.size ≤ k := fun k hk => (World.ownsRow.lt hoy k hk).1
    have hf7 : Far (.slice (some ⟨b, o, none⟩) R.length cR) (.slice A7 (ys.map Int.ofNat).length c7) := far_fresh hst5.out.r hlo
    have hf9 := far_fresh hst5.out.o hlo
    have hoX : OwnI w8 w6.heap.size (.slice A7 (ys.map Int.ofNat).length c7) (ys.map Int.ofNat) := OwnI.mono hoy hst5.out.size
    rw [List.length_map] at hf7 hf9 hoX ⊢
    clear hoy hb8 hlo c1 hc hc3 hst5 Hlist Hst3 HTk
    go_wp2_with fail
    go_loopw [9, 71] (fun t9 t71 wx => ∃ (R' : List Nat) (q : Nat), q ≤ ys.length ∧ t71 = .int .i64 (q : Int) ∧ AnS w.heap.size n w6.heap.size (some ⟨gB, 0, none⟩) (some ⟨gO, 0, none⟩) w6 t9 R' v5 ((R.take (i + 1)).map (rpO n l)) wx ∧ OgI n l root R' i ∧ i < R'.length ∧ R'.take (i + 1) = R.take (i + 1) ∧ (∀ y ∈ ys.take q, y ∈ R') ∧
      OwnI wx w6.heap.size (.slice A7 ys.length c7) (ys.map Int.ofNat) ∧ Far t9 (.slice A7 ys.length c7) ∧ Far v5 (.slice A7 ys.length c7)) (fun _ t71 _ => ys.length - (intOf t71).toNat)
    case atStart => exact ⟨R, 0, Nat.zero_le _, rfl, hst8, Hog.out, hlt, rfl, (fun y hy => by simp at hy), hoX, hf7, hf9⟩
    case round =>
      clear hst8 hoX hf7 hf9
      obtain ⟨R', q, hq, rfl, hst, hog, hiR, htk, hqs, hoX, hf7, hf9⟩ := hrel
      by_cases hqy : q < ys.length
      case neg =>
        have Hst := Lib.hid hst; have Hog' := Lib.hid hog; have Htk := Lib.hid htk; have Hqs := Lib.hid hqs; have HiR := Lib.hid hiR
        clear hst hog htk hqs hoX hf7 hf9 hiR
        go_wp2_with fail
        go_roundw
        case rel =>
          refine ⟨R', i + 1, HiR.out, by go_num, by rw [Htk.out]; exact Hst.out, ⟨Hog'.out.nd, Hog'.out.root, Hog'.out.ok, fun j hj y hy => ?_⟩⟩
          rcases Nat.lt_or_ge j i with h | h
          · exact Hog'.out.cl j h y hy
          · have hji : j = i := by omega
            subst hji
            have e1 : R'[j]? = R[j]? := by
              have h1 : (R'.take (j + 1))[j]? = (R.take (j + 1))[j]? := by rw [Htk.out]
              rwa [List.getElem?_take_of_lt (Nat.lt_succ_self _), List.getElem?_take_of_lt (Nat.lt_succ_self _)] at h1
            rw [List.getD_eq_getElem?_getD, e1, List.getElem?_eq_getElem hlt, Ha.out] at hy
            have hy2 : att l y px := by rw [← Hpp.out]; exact hy
            exact Hqs.out y (by rw [List.take_of_length_le (by omega)]; exact Hys2.out y hy2)
        case measure => simp [intOf]; have := Hog.out.len; omega
      case pos =>
      obtain ⟨AR2, cR2, rfl, -, -⟩ := OwnI.form hst.r
      rw [List.length_map] at hst hf7 ⊢
      obtain ⟨y, hy⟩ : ∃ y, ys[q] = y := ⟨_, rfl⟩
      have hyy := Hys.out y (by rw [← hy]; exact List.getElem_mem _)
      obtain ⟨AY, cY, hAY, hriY, -⟩ := OwnI.form hoX
      have hcy := hriY.at_ (k := q) (by rw [List.length_map]; exact hqy)
      injection hAY with hAY1 hAY2 hAY3
      subst hAY1
      obtain ⟨b7, o7, rfl, hc7⟩ := hcy
      rw [List.getElem_map, hy, Int.ofNat_eq_natCast] at hc7
      have htk2 : ys.take (q + 1) = ys.take q ++ [y] := by rw [List.take_succ_eq_append_getElem hqy, hy]
      have hRl' := hog.len
      have hcon := containsI_any AR2 (R'.map Int.ofNat) cR2 (y : Int) wr (OwnI.ri (by rw [List.length_map]; exact hst.r)) (by rw [List.length_map]; omega)
      rw [List.length_map, inB_ofNat] at hcon
      have Hst := Lib.hid hst; have Hog' := Lib.hid hog; have Htk := Lib.hid htk; have Hqs := Lib.hid hqs; have HoX := Lib.hid hoX; have Hf7 := Lib.hid hf7; have Hf9 := Lib.hid hf9; have Hyy := Lib.hid hyy; have Htk2 := Lib.hid htk2; have HiR := Lib.hid hiR
      by_cases hin : y ∈ R'
      · rw [decide_eq_true hin] at hcon
        have Hcon := Lib.hid hcon; have Hin := Lib.hid hin
        clear hst hog htk hqs hoX hf7 hf9 hyy htk2 hcon hin hy hriY hAY2 hAY3 hiR
        go_wp2_with fail
        refine Hcon.out.mono ?_
        rintro e w9 ⟨rfl, rfl⟩
        go_wp2_with fail
        go_roundw
        case rel =>
          refine ⟨R', q + 1, by omega, by go_num, Hst.out, Hog'.out, HiR.out, Htk.out, fun z hz => ?_, HoX.out, Hf7.out, Hf9.out⟩
          rw [Htk2.out, List.mem_append, List.mem_singleton] at hz
          rcases hz with hz | rfl
          · exact Hqs.out z hz
          · exact Hin.out
        case measure => simp [intOf]; omega
      · rw [decide_eq_false hin] at hcon
        have Hcon := Lib.hid hcon
        have hm := hog.more hyy hin (Nat.le_of_lt hiR)
        have Hm := Lib.hid hm
        have hlr : (R'.map Int.ofNat).length ≤ 1000000 := by rw [List.length_map]; omega
        clear hst hog htk hqs hoX hf7 hf9 hyy htk2 hcon hin hy hriY hAY2 hAY3 hm hiR
        go_wp2_with fail
        refine Hcon.out.mono ?_
        rintro e w9 ⟨rfl, rfl⟩
        go_wp2_with (at_builtin; refine wpList_appI2 (by rfl) _ _ (by rfl) wr w6.heap.size _ (R'.map Int.ofNat) (y : Int) Hst.out.r (by rfl) (by rfl) rfl hlr Hst.out.size ?_; intro v9 w9 ho9 hb9 hg9 hl9; (have hst9 := Lib.hid (Hst.out.moreR (R' := R' ++ [y]) (by rw [List.map_append]; exact ho9) hb9 hg9 hl9)); (have hoX9 := Lib.hid (HoX.out.keep hg9 Hf7.out)); (have hf79 := Lib.hid (Hf7.out.appended HoX.out hl9)); clear ho9 hb9 hg9 hl9)
        go_roundw
        case rel =>
          refine ⟨R' ++ [y], q + 1, by omega, by go_num, hst9.out, Hm.out, by rw [List.length_append]; have := HiR.out; omega, ?_, fun z hz => ?_, hoX9.out, hf79.out, Hf9.out⟩
          · rw [List.take_append_of_le_length (by have := HiR.out; omega)]; exact Htk.out
          · rw [Htk2.out, List.mem_append, List.mem_singleton] at hz
            rcases hz with hz | rfl
            · exact List.mem_append_left _ (Hqs.out z hz)
            · simp
        case measure => simp [intOf]; omega
end Go.Proofs.YtncimnfhfomddaaDoor

/- Package game: Solve, of the grounded game; and its errors. -/
namespace Go.Proofs.YtncimnfhfomddaaDoor
open Go.ChangeShapes Go.WideShapes Go.ChangeAt Go.RowKit

/-- the grounded game's strategy -/
def RetSg (n : Nat) (l : List (Int × Int)) (root : Nat) (w : World) : Ending → World → Prop := fun e w' => Below w.heap.size w w' ∧ ∃ (R : List Nat) (OO : List (Nat × Nat)) (A : Option Addr) (c : Nat), OO.length ≤ n ∧ RP w' A (OO.map toI) ∧ (∀ b o, A = some ⟨b, o, none⟩ → w.heap.size ≤ b) ∧
  ((gsB n l root = true ∧ e = .returned (.tuple #[.agg #[.int .i64 1, .int .i64 (root : Int), .int .i64 1, .slice A OO.length c], .int .i64 0]) ∧ ∃ K, (∀ i, gsF n l K i = gsB n l i) ∧ AnOk n (attQ l) (pickG n l K) (fun a => gsB n l a = true) root R OO) ∨
   (gsB n l root = false ∧ e = .returned (.tuple #[.agg #[.int .i64 1, .int .i64 (root : Int), .int .i64 2, .slice A OO.length c], .int .i64 0]) ∧ OgOk n l root R OO))
theorem RP.far4 {w : World} {A : Option Addr} {l : List (Int × Int)} {g : Nat} (h : RP w A l) (hA : ∀ b o, A = some ⟨b, o, none⟩ → b ≠ g) (v0 v1 v2 v3 : Value) : RP ((((w.setCell ⟨g, 0, none⟩ v0).setCell ⟨g, 1, none⟩ v1).setCell ⟨g, 2, none⟩ v2).setCell ⟨g, 3, none⟩ v3) A l := fun j hj => by
  obtain ⟨b, o, e, h1, h2⟩ := h j hj
  have hne : g ≠ b := Ne.symm (hA b o e)
  refine ⟨b, o, e, ?_, ?_⟩
  · rw [World.cell?_setCell_far _ _ _ _ (by exact hne), World.cell?_setCell_far _ _ _ _ (by exact hne), World.cell?_setCell_far _ _ _ _ (by exact hne), World.cell?_setCell_far _ _ _ _ (by exact hne)]; exact h1
  · rw [World.cell?_setCell_far _ _ _ _ (by exact hne), World.cell?_setCell_far _ _ _ _ (by exact hne), World.cell?_setCell_far _ _ _ _ (by exact hne), World.cell?_setCell_far _ _ _ _ (by exact hne)]; exact h2
theorem RP.far1 {w : World} {A : Option Addr} {l : List (Int × Int)} {g : Nat} (h : RP w A l) (hA : ∀ b o, A = some ⟨b, o, none⟩ → b ≠ g) (i : Nat) (v : Value) : RP (w.setCell ⟨g, i, none⟩ v) A l := fun j hj => by
  obtain ⟨b, o, e, h1, h2⟩ := h j hj
  have hne : g ≠ b := Ne.symm (hA b o e)
  exact ⟨b, o, e, (World.cell?_setCell_far _ _ _ _ hne).trans h1, (World.cell?_setCell_far _ _ _ _ hne).trans h2⟩
theorem below4 {w W : World} {g B : Nat} (h : Below B w W) (hg : B ≤ g) (v0 v1 v2 v3 : Value) : Below B w ((((W.setCell ⟨g, 0, none⟩ v0).setCell ⟨g, 1, none⟩ v1).setCell ⟨g, 2, none⟩ v2).setCell ⟨g, 3, none⟩ v3) :=
  (((h.setCell (p := ⟨g, 0, none⟩) hg _).setCell (p := ⟨g, 1, none⟩) hg _).setCell (p := ⟨g, 2, none⟩) hg _).setCell (p := ⟨g, 3, none⟩) hg _
theorem boxg24 (w : World) (t u : TypeId) (x y a b c d : Value) : ∃ W0, (w.alloc (.cells #[x, y] t)).alloc (.cells #[a, b, c, d] u) = W0 ∧ Blk W0 w.heap.size t #[x, y] ∧ Blk W0 (w.heap.size + 1) u #[a, b, c, d] ∧ Below w.heap.size w W0 ∧ W0.heap.size = w.heap.size + 2 :=
  ⟨_, rfl, (Blk.new _ _ _).alloc _, by have := Blk.new (w.alloc (.cells #[x, y] t)) u #[a, b, c, d]; rw [World.size_alloc] at this; exact this, ((Below.refl _ _).alloc (Nat.le_refl _) _).alloc (by simp) _, by simp⟩
theorem boxg34 (w : World) (t u : TypeId) (x y z a b c d : Value) : ∃ W0, (w.alloc (.cells #[x, y, z] t)).alloc (.cells #[a, b, c, d] u) = W0 ∧ Blk W0 w.heap.size t #[x, y, z] ∧ Blk W0 (w.heap.size + 1) u #[a, b, c, d] ∧ Below w.heap.size w W0 ∧ W0.heap.size = w.heap.size + 2 :=
  ⟨_, rfl, (Blk.new _ _ _).alloc _, by have := Blk.new (w.alloc (.cells #[x, y, z] t)) u #[a, b, c, d]; rw [World.size_alloc] at this; exact this, ((Below.refl _ _).alloc (Nat.le_refl _) _).alloc (by simp) _, by simp⟩

set_option maxRecDepth 100000 in
set_option maxHeartbeats 8000000 in
theorem gSolveG_any (A : Option Addr) {n : Nat} {l : List (Int × Int)} (c : Nat) (root : Nat) (hv : Vld n l) (hroot : root < n) (w : World) (hr : RP w A l) (hT : Tab w) :
    Calls Tryd.prog 35 #[.agg #[.int .i64 (n : Int), .slice A l.length c], .int .i64 1, .int .i64 (root : Int)] w (RetSg n l root w) := by
  have hval := hv.valE
  have Hv := Lib.hid hv; have Hval := Lib.hid hval
  have hri : (0 : Int) ≤ (root : Int) := by omega
  have hrn : (root : Int) < (n : Int) := by omega
  have hlen := hv.1.2.1
  clear hv hval
  go_enter Tryd.func35, Tryd.ntmps35
  go_wp2_with fail
  obtain ⟨W0, hW, k0, k1, hb0, hs0⟩ := boxg24 w 24 64 (.int .i64 (n : Int)) (.slice A l.length c) (.int .i64 0) (.int .i64 0) (.int .i64 0) (.slice none 0 0)
  rw [hW]
  have hr0 := hr.below hb0
  have hT0 := hT.below hb0
  have HT := Lib.hid hT
  clear hW hr hT
  refine (gValidate_any A n l c W0 hr0 hlen).mono ?_
  rintro e w1 ⟨rfl, hb1⟩
  rw [Hval.out]
  obtain ⟨c0, c1, -, -⟩ := (k0.below hb1 k0.lt).two
  have k1' := k1.below hb1 k1.lt
  have hr1 := hr0.below hb1
  have hT1 := hT0.below hb1
  have hb01 := endB hb0 hb1
  have hs1 : w.heap.size + 2 ≤ w1.heap.size := by have := hb1.size; omega
  clear k0 k1 hr0 hT0 hb0 hb1 hs0 Hval
  go_wp2_with fail
  refine (gExists_any 1 w1).mono ?_
  rintro e w2 ⟨rfl, rfl⟩
  go_wp2_with fail
  refine (netNew_any A n l c w1 hr1 Hv.out.1).mono ?_
  rintro e w3 ⟨gB, gO, rfl, hgB, hgO, hrB, hrO, hb3⟩
  have k3 := k1'.below hb3 k1'.lt
  have hb03 := endB hb01 hb3
  have hs3 := Nat.le_trans hs1 hb3.size
  have hnr : NetR w3 n l (some ⟨gB, 0, none⟩) (some ⟨gO, 0, none⟩) := ⟨hrB, hrO⟩
  clear c0 c1 k1' hr1 hT1 hb01 hb3 hs1 hrB hrO
  go_wp2_with fail
  obtain ⟨W5, hW5, k9, k10, hb5, hs5⟩ := boxg34 w3 97 64 (.int .u64 ((allN n : Nat) : Int)) (.slice (some ⟨gB, 0, none⟩) n n) (.slice (some ⟨gO, 0, none⟩) n n) (.int .i64 1) (.int .i64 (root : Int)) (.int .i64 2) (.slice none 0 0)
  rw [hW5]
  have k5 := k3.below hb5 k3.lt
  have hnr5 := hnr.below hb5
  have hb05 := endB hb03 hb5
  have hT5 := HT.out.below hb05
  have hgw : w3.heap.size + 1 < W5.heap.size := by omega
  have n0 : W5.cell? ⟨w3.heap.size, 0, none⟩ = some (.int .u64 ((allN n : Nat) : Int)) := k9.cell 0
  have n1 : W5.cell? ⟨w3.heap.size, 1, none⟩ = some (.slice (some ⟨gB, 0, none⟩) n n) := k9.cell 1
  have n2 : W5.cell? ⟨w3.heap.size, 2, none⟩ = some (.slice (some ⟨gO, 0, none⟩) n n) := k9.cell 2
  clear hW5 k3 hnr hb03 hb5 k9
  generalize w3.heap.size = G at *
  refine (gGrounded_any Hv.out.1 gB gO root hroot W5 hT5 hnr5).mono ?_
  rintro e w7 ⟨hb7, R, OO, A', c', hOl, hrp, hap, hcase⟩
  have Hloc : RowKit.Hid (∀ b o, A' = some ⟨b, o, none⟩ → w.heap.size ≤ b) := Lib.hid fun b o e => by have := (hap b o e).1; have := hb05.size; omega
  have k7 := k10.below hb7 k10.lt
  have k57 := k5.below hb7 k5.lt
  have hb07 := endB hb05 hb7
  have hapG : ∀ b o, A' = some ⟨b, o, none⟩ → b ≠ G + 1 ∧ b ≠ w.heap.size + 1 := fun b o e => by have := (hap b o e).1; omega
  have HapG := Lib.hid hapG; have Hrp := Lib.hid hrp; have Hb07 := Lib.hid hb07
  have x2 : w7.cell? ⟨G + 1, 2, none⟩ = some (.int .i64 2) := k7.cell 2
  have x3 : w7.cell? ⟨G + 1, 3, none⟩ = some (.slice none 0 0) := k7.cell 3
  have p2 := k7.frozen 2; have p3 := k7.frozen 3
  clear hb7 hrp hap hb07 hapG k10 k5 hT5 hnr5 hb05 n0 n1 n2
  rcases hcase with ⟨hg, rfl, hok⟩ | ⟨hg, rfl, hok⟩
  · have Hok := Lib.hid hok; have Hg := Lib.hid hg
    obtain ⟨w8, hw8⟩ : ∃ w8, (w7.setCell ⟨G + 1, 2, none⟩ (.int .i64 1)).setCell ⟨G + 1, 3, none⟩ (.slice A' OO.length c') = w8 := ⟨_, rfl⟩
    have k8 : Blk w8 (G + 1) 64 #[.int .i64 1, .int .i64 (root : Int), .int .i64 1, .slice A' OO.length c'] := by rw [← hw8]; exact (k7.set_ 2 _).set_ 3 _
    have k58 : Blk w8 (w.heap.size + 1) 64 #[.int .i64 0, .int .i64 0, .int .i64 0, .slice none 0 0] := by rw [← hw8]; exact (k57.far (p := ⟨G + 1, 2, none⟩) (by show w.heap.size + 1 ≠ G + 1; omega) _).far (p := ⟨G + 1, 3, none⟩) (by show w.heap.size + 1 ≠ G + 1; omega) _
    have hb8 : Below w.heap.size w w8 := by rw [← hw8]; exact (Hb07.out.setCell (p := ⟨G + 1, 2, none⟩) (by show w.heap.size ≤ G + 1; omega) _).setCell (p := ⟨G + 1, 3, none⟩) (by show w.heap.size ≤ G + 1; omega) _
    have hr8 : RP w8 A' (OO.map toI) := by rw [← hw8]; exact (Hrp.out.far1 (fun b o e => (HapG.out b o e).1) 2 _).far1 (fun b o e => (HapG.out b o e).1) 3 _
    have a0 : w8.cell? ⟨G + 1, 0, none⟩ = some (.int .i64 1) := k8.cell 0
    have a1 : w8.cell? ⟨G + 1, 1, none⟩ = some (.int .i64 (root : Int)) := k8.cell 1
    have a2 : w8.cell? ⟨G + 1, 2, none⟩ = some (.int .i64 1) := k8.cell 2
    have a3 : w8.cell? ⟨G + 1, 3, none⟩ = some (.slice A' OO.length c') := k8.cell 3
    have z0 := k58.frozen 0; have z1 := k58.frozen 1; have z2 := k58.frozen 2; have z3 := k58.frozen 3
    have y0 : w8.cell? ⟨w.heap.size + 1, 0, none⟩ = some (.int .i64 0) := k58.cell 0
    have y1 : w8.cell? ⟨w.heap.size + 1, 1, none⟩ = some (.int .i64 0) := k58.cell 1
    have y2 : w8.cell? ⟨w.heap.size + 1, 2, none⟩ = some (.int .i64 0) := k58.cell 2
    have y3 : w8.cell? ⟨w.heap.size + 1, 3, none⟩ = some (.slice none 0 0) := k58.cell 3
    have k6 := (((k58.set_ 0 (.int .i64 1)).set_ 1 (.int .i64 (root : Int))).set_ 2 (.int .i64 1)).set_ 3 (.slice A' OO.length c')
    have u0 := k6.cell 0; have u1 := k6.cell 1; have u2 := k6.cell 2; have u3 := k6.cell 3
    simp at u0 u1 u2 u3
    have Hr8 := Lib.hid hr8; have Hb8 := Lib.hid hb8; have Hw8 := Lib.hid hw8
    clear k6 k58 k8 k57 k7 hok hr8 hb8 hg hw8
    go_upto_region 14 with fail
    rw [Hw8.out]
    go_wp2_with fail
    refine bodyPost_ret (v := .tuple #[.agg #[.int .i64 1, .int .i64 (root : Int), .int .i64 1, .slice A' OO.length c'], .int .i64 0]) (by simp [results, Tryd.results35, go_sem, u0, u1, u2, u3]) rfl ?_
    exact ⟨below4 Hb8.out (Nat.le_succ _) _ _ _ _, R, OO, A', c', hOl, Hr8.out.far4 (fun b o e => (HapG.out b o e).2) _ _ _ _, Hloc.out, .inl ⟨Hg.out, rfl, Hok.out⟩⟩
  · have Hok := Lib.hid hok; have Hg := Lib.hid hg
    obtain ⟨w8, hw8⟩ : ∃ w8, (w7.setCell ⟨G + 1, 2, none⟩ (.int .i64 2)).setCell ⟨G + 1, 3, none⟩ (.slice A' OO.length c') = w8 := ⟨_, rfl⟩
    have k8 : Blk w8 (G + 1) 64 #[.int .i64 1, .int .i64 (root : Int), .int .i64 2, .slice A' OO.length c'] := by rw [← hw8]; exact (k7.set_ 2 _).set_ 3 _
    have k58 : Blk w8 (w.heap.size + 1) 64 #[.int .i64 0, .int .i64 0, .int .i64 0, .slice none 0 0] := by rw [← hw8]; exact (k57.far (p := ⟨G + 1, 2, none⟩) (by show w.heap.size + 1 ≠ G + 1; omega) _).far (p := ⟨G + 1, 3, none⟩) (by show w.heap.size + 1 ≠ G + 1; omega) _
    have hb8 : Below w.heap.size w w8 := by rw [← hw8]; exact (Hb07.out.setCell (p := ⟨G + 1, 2, none⟩) (by show w.heap.size ≤ G + 1; omega) _).setCell (p := ⟨G + 1, 3, none⟩) (by show w.heap.size ≤ G + 1; omega) _
    have hr8 : RP w8 A' (OO.map toI) := by rw [← hw8]; exact (Hrp.out.far1 (fun b o e => (HapG.out b o e).1) 2 _).far1 (fun b o e => (HapG.out b o e).1) 3 _
    have a0 : w8.cell? ⟨G + 1, 0, none⟩ = some (.int .i64 1) := k8.cell 0
    have a1 : w8.cell? ⟨G + 1, 1, none⟩ = some (.int .i64 (root : Int)) := k8.cell 1
    have a2 : w8.cell? ⟨G + 1, 2, none⟩ = some (.int .i64 2) := k8.cell 2
    have a3 : w8.cell? ⟨G + 1, 3, none⟩ = some (.slice A' OO.length c') := k8.cell 3
    have z0 := k58.frozen 0; have z1 := k58.frozen 1; have z2 := k58.frozen 2; have z3 := k58.frozen 3
    have y0 : w8.cell? ⟨w.heap.size + 1, 0, none⟩ = some (.int .i64 0) := k58.cell 0
    have y1 : w8.cell? ⟨w.heap.size + 1, 1, none⟩ = some (.int .i64 0) := k58.cell 1
    have y2 : w8.cell? ⟨w.heap.size + 1, 2, none⟩ = some (.int .i64 0) := k58.cell 2
    have y3 : w8.cell? ⟨w.heap.size + 1, 3, none⟩ = some (.slice none 0 0) := k58.cell 3
    have k6 := (((k58.set_ 0 (.int .i64 1)).set_ 1 (.int .i64 (root : Int))).set_ 2 (.int .i64 2)).set_ 3 (.slice A' OO.length c')
    have u0 := k6.cell 0; have u1 := k6.cell 1; have u2 := k6.cell 2; have u3 := k6.cell 3
    simp at u0 u1 u2 u3
    have Hr8 := Lib.hid hr8; have Hb8 := Lib.hid hb8; have Hw8 := Lib.hid hw8
    clear k6 k58 k8 k57 k7 hok hr8 hb8 hg hw8
    go_upto_region 14 with fail
    rw [Hw8.out]
    go_wp2_with fail
    refine bodyPost_ret (v := .tuple #[.agg #[.int .i64 1, .int .i64 (root : Int), .int .i64 2, .slice A' OO.length c'], .int .i64 0]) (by simp [results, Tryd.results35, go_sem, u0, u1, u2, u3]) rfl ?_
    exact ⟨below4 Hb8.out (Nat.le_succ _) _ _ _ _, R, OO, A', c', hOl, Hr8.out.far4 (fun b o e => (HapG.out b o e).2) _ _ _ _, Hloc.out, .inr ⟨Hg.out, rfl, Hok.out⟩⟩
end Go.Proofs.YtncimnfhfomddaaDoor
