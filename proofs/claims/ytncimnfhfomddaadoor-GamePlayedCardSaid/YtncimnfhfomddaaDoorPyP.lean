/- Lines in which a player follows a strategy that wins: plain. -/
import Derived.Test.YtncimnfhfomddaaDoorCk
import Derived.Test.YtncimnfhfomddaaDoorMv
namespace Go.Proofs.YtncimnfhfomddaaDoor
/-- good lines: the player's reply is there and legal, and every move of the other one stays within -/
structure PlayG (n k by_ root : Nat) (at_ : Nat → Nat → Bool) (OO : List (Nat × Nat)) (G : List Nat → Prop) : Prop where
  start : G [root]
  ne : ∀ line, G line → line ≠ [] ∧ (∀ x ∈ line, x < n) ∧ PlOk k at_ line ∧ line.headD 0 = root
  self : k = 2 → at_ root root = false
  mine : ∀ line, G line → mvr line = by_ → ∃ y, rpF OO (line.getLastD 0) = some y ∧ y ∈ lgL n k at_ line ∧ G (line ++ [y])
  oth : ∀ line, G line → mvr line ≠ by_ → ∀ a ∈ lgL n k at_ line, G (line ++ [a])
theorem headD_snoc {line : List Nat} (h : line ≠ []) (a : Nat) : (line ++ [a]).headD 0 = line.headD 0 := by
  cases line with
  | nil => exact absurd rfl h
  | cons x r => rfl
theorem mvr_odd {line : List Nat} : mvr line ≠ 1 ↔ line.length % 2 = 1 := by unfold mvr; split <;> omega
theorem mvr_even {line : List Nat} : mvr line = 1 ↔ line.length % 2 = 0 := by unfold mvr; split <;> omega
theorem lens_snoc (line : List Nat) (a : Nat) : (line ++ [a]).length = line.length + 1 := by rw [List.length_append, List.length_singleton]
theorem all_snoc {P : Nat → Prop} {line : List Nat} {a : Nat} (h : ∀ x ∈ line, P x) (ha : P a) : ∀ x ∈ line ++ [a], P x := fun x hx => by
  rw [List.mem_append, List.mem_singleton] at hx
  rcases hx with hx | rfl
  · exact h x hx
  · exact ha
section
variable {n k root : Nat} {at_ : Nat → Nat → Bool} {OO : List (Nat × Nat)}
structure SPs (n k root R : Nat) (at_ : Nat → Nat → Bool) (OO : List (Nat × Nat)) (rk : Nat → Nat) : Prop where
  root : R.testBit root = true
  lt : ∀ v, R.testBit v = true → v < n
  step : ∀ v, R.testBit v = true → ∀ x, at_ x v = true → ∃ y, rpF OO x = some y ∧ y < n ∧ at_ y x = true ∧ R.testBit y = true ∧ (k = 1 → rk y < rk v)
  free : k = 2 → freeS n at_ R = true
def GPro (n k root R : Nat) (at_ : Nat → Nat → Bool) (rk : Nat → Nat) (line : List Nat) : Prop := line ≠ [] ∧ (∀ x ∈ line, x < n) ∧ PlOk k at_ line ∧ line.headD 0 = root ∧ (∀ p ∈ proS line, R.testBit p = true) ∧
  ∃ q, R.testBit q = true ∧ (k = 1 → ∀ p ∈ proS line, p = q ∨ rk q < rk p) ∧ (line.length % 2 = 1 → line.getLastD 0 = q) ∧ (line.length % 2 = 0 → at_ (line.getLastD 0) q = true)
theorem SPs.play {R : Nat} {rk : Nat → Nat} (h : SPs n k root R at_ OO rk) (hk : k = 1 ∨ k = 2) : PlayG n k 1 root at_ OO (GPro n k root R at_ rk) where
  start := ⟨by simp, fun x hx => by rw [List.mem_singleton] at hx; rw [hx]; exact h.lt _ h.root, PlOk.one _, rfl, fun p hp => by simp [proS] at hp; rw [hp]; exact h.root, root, h.root, fun _ p hp => by simp [proS] at hp; exact .inl hp, fun _ => rfl, fun e => by simp at e⟩
  ne := fun line hl => ⟨hl.1, hl.2.1, hl.2.2.1, hl.2.2.2.1⟩
  self := fun e => freeS_iff.1 (h.free e) root root (h.lt _ h.root) (h.lt _ h.root) h.root h.root
  mine := fun line hl hm => by
    obtain ⟨hne, hx, hp, hh, hpro, q, hq, hrk, -, hev⟩ := hl
    have hpar := mvr_even.1 hm
    obtain ⟨y, h1, h2, h3, h4, h5⟩ := h.step q hq _ (hev hpar)
    have hlg : lgB k at_ line y = true := by
      rcases hk with rfl | rfl
      · rw [lg_p1 hpar, h3, Bool.true_and, Bool.not_eq_true', ← Bool.not_eq_true, List.contains_iff_mem]
        intro hm
        have := h5 rfl
        rcases hrk rfl y hm with e | e
        · rw [e] at this; omega
        · omega
      · rw [lg_p2 hpar, h3, Bool.true_and, Bool.and_eq_true, List.all_eq_true]
        have hf := freeS_iff.1 (h.free rfl)
        refine ⟨by rw [hf y y h2 h2 h4 h4]; rfl, fun p hpp => ?_⟩
        have hpR := hpro p hpp
        rw [hf y p h2 (h.lt p hpR) h4 hpR, hf p y (h.lt p hpR) h2 hpR h4]; rfl
    refine ⟨y, h1, mem_lg.2 ⟨h2, hlg⟩, by simp, all_snoc hx h2, hp.snoc hlg, by rw [headD_snoc hne]; exact hh, ?_, y, h4, ?_, fun _ => last_snoc _ _, fun e => by rw [lens_snoc] at e; omega⟩
    · rw [proS_even hpar]; exact all_snoc hpro h4
    · intro e
      rw [proS_even hpar]
      refine all_snoc (fun p hpp => ?_) (.inl rfl)
      have := h5 e
      rcases hrk e p hpp with e2 | e2
      · rw [e2]; exact .inr this
      · exact .inr (by omega)
  oth := fun line hl hm a ha => by
    obtain ⟨hne, hx, hp, hh, hpro, q, hq, hrk, hod, -⟩ := hl
    have hpar := mvr_odd.1 hm
    obtain ⟨han, hlg⟩ := mem_lg.1 ha
    have hlg0 := hlg
    refine ⟨by simp, all_snoc hx han, hp.snoc hlg, by rw [headD_snoc hne]; exact hh, by rw [proS_odd hpar]; exact hpro, ?_⟩
    rcases hk with rfl | rfl
    · rw [lg_o1 hpar] at hlg
      exact ⟨q, hq, fun e => by rw [proS_odd hpar]; exact hrk e, fun e => by rw [lens_snoc] at e; omega, fun _ => by rw [last_snoc, ← hod hpar]; exact hlg⟩
    · rw [lg_o2 hpar, Bool.and_eq_true] at hlg
      obtain ⟨p, hpp, hap⟩ := List.any_eq_true.1 hlg.2
      exact ⟨p, hpro p hpp, fun e => (by cases e), fun e => by rw [lens_snoc] at e; omega, fun _ => by rw [last_snoc]; exact hap⟩
def GOpp (n root R : Nat) (at_ : Nat → Nat → Bool) (OO : List (Nat × Nat)) (line : List Nat) : Prop := line ≠ [] ∧ (∀ x ∈ line, x < n) ∧ PlOk 1 at_ line ∧ line.headD 0 = root ∧ (line.length % 2 = 1 → R.testBit (line.getLastD 0) = true) ∧ (line.length % 2 = 0 → ∃ v, R.testBit v = true ∧ rpF OO v = some (line.getLastD 0))
theorem opp_play {R : Nat} (hroot : root < n) (h0 : R.testBit root = true) (h : ∀ v, R.testBit v = true → RcD n at_ OO R v) : PlayG n 1 2 root at_ OO (GOpp n root R at_ OO) where
  start := ⟨by simp, fun x hx => by rw [List.mem_singleton] at hx; rw [hx]; exact hroot, PlOk.one _, rfl, fun _ => h0, fun e => by simp at e⟩
  ne := fun line hl => ⟨hl.1, hl.2.1, hl.2.2.1, hl.2.2.2.1⟩
  self := fun e => by cases e
  mine := fun line hl hm => by
    obtain ⟨hne, hx, hp, hh, hod, -⟩ := hl
    have hpar : line.length % 2 = 1 := mvr_odd.1 (by omega)
    obtain ⟨x, h1, h2, h3, h4⟩ := h _ (hod hpar)
    have hlg : lgB 1 at_ line x = true := by rw [lg_o1 hpar]; exact h3
    exact ⟨x, h1, mem_lg.2 ⟨h2, hlg⟩, by simp, all_snoc hx h2, hp.snoc hlg, by rw [headD_snoc hne]; exact hh, fun e => by rw [lens_snoc] at e; omega, fun _ => ⟨_, hod hpar, by rw [last_snoc]; exact h1⟩⟩
  oth := fun line hl hm a ha => by
    obtain ⟨hne, hx, hp, hh, -, hev⟩ := hl
    have hpar : line.length % 2 = 0 := by
      refine mvr_even.1 ?_
      unfold mvr at hm ⊢
      split at hm
      · rw [if_pos (by assumption)]
      · exact absurd rfl hm
    obtain ⟨han, hlg⟩ := mem_lg.1 ha
    have hlg0 := hlg
    rw [lg_p1 hpar, Bool.and_eq_true] at hlg
    obtain ⟨v, hv, hrp⟩ := hev hpar
    obtain ⟨x, h1, h2, h3, h4⟩ := h v hv
    rw [hrp] at h1; injection h1 with h1
    exact ⟨by simp, all_snoc hx han, hp.snoc hlg0, by rw [headD_snoc hne]; exact hh, fun _ => by rw [last_snoc]; exact h4 a (by rw [← h1]; exact hlg.1), fun e => by rw [lens_snoc] at e; omega⟩
end
section
variable {n k root by_ : Nat} {l : List (Int × Int)} {OO : List (Nat × Nat)}
theorem SPs.of (hp : WPost n l k 1 root OO true) : ∃ R rk, SPs n k root R (attQ l) OO rk := by
  obtain ⟨b1, cur, rc, hpo, hrc, hrl, hb⟩ := hp.1 rfl
  have hb := hb.symm
  rw [Bool.and_eq_true] at hb
  obtain ⟨hb1, hb2⟩ := hb
  subst hb1
  obtain ⟨rk, hrk⟩ := hpo.inv rfl ⟨fun _ => 0, fun v hv => by cases hv⟩
  have h2 : ∀ v, rc.testBit v = true → cur v = 2 := fun v hv => by
    rw [hrc, decide_eq_true_iff] at hv
    rcases hpo.grow rfl v rfl with e | e
    · exact absurd e hv
    · exact e
  have hb : ∀ v, cur v ≠ 0 → rc.testBit v = true := fun v hv => by rw [hrc, decide_eq_true_iff]; exact hv
  refine ⟨rc, rk, hb _ (by rw [hpo.nd2 rfl]; decide), fun v hv => (hrk v (h2 v hv)).1, fun v hv x hx => ?_, fun e => ?_⟩
  · obtain ⟨y, e1, e2, e3, e4, e5⟩ := (hrk v (h2 v hv)).2 x hx
    exact ⟨y, e1, e2, e3, hb y e4, fun e => (e5 e).2⟩
  · rw [Bool.or_eq_true, decide_eq_true_iff] at hb2
    rcases hb2 with e2 | e2
    · omega
    · exact e2
theorem SPs.wins {R : Nat} {rk : Nat → Nat} (hk : k = 1 ∨ k = 2) (h : SPs n k root R (attQ l) OO rk) {b : Bool} (hp : WPost n l k 1 root OO b) : b = true := by
  obtain ⟨b1, cur, rc, hpo, hrc, hrl, rfl⟩ := hp.1 rfl
  have hcl : RCl (attQ l) OO (fun v => R.testBit v = true) := fun v hvR x hx y hy => by
    obtain ⟨y', e1, -, -, e4, -⟩ := h.step v hvR x hx
    rw [hy] at e1; injection e1 with e1; rw [e1]; exact e4
  have hb1 : b1 = true := hpo.good ⟨fun v => R.testBit v = true, rk, h.root, h.step, fun _ u hu => absurd hu (fun (e : (0 : Nat) = 1) => by cases e)⟩
  subst hb1
  rw [Bool.true_and, Bool.or_eq_true, decide_eq_true_iff]
  rcases hk with hk | hk
  · exact .inl hk
  right
  have hsub : ∀ v, rc.testBit v = true → R.testBit v = true := fun v hvb => by
    rw [hrc, decide_eq_true_iff] at hvb
    rcases hpo.sub rfl _ hcl h.root v hvb with e | e
    · exact absurd rfl e
    · exact e
  exact freeS_iff.2 fun i j hi hj ri rj => freeS_iff.1 (h.free hk) i j hi hj (hsub i ri) (hsub j rj)
/-- a strategy that is accepted is accepted again, and has lines to stay in -/
theorem playG_of (hroot : root < n) (hk : k = 1 ∨ k = 2) (hby : by_ = 1 ∨ by_ = 2 ∧ k = 1) (hp : WPost n l k by_ root OO true) : (∀ b, WPost n l k by_ root OO b → b = true) ∧ ∃ G, PlayG n k by_ root (attQ l) OO G := by
  rcases hby with rfl | ⟨rfl, rfl⟩
  · obtain ⟨R, rk, h⟩ := SPs.of hp
    exact ⟨fun b hb => h.wins hk hb, _, h.play hk⟩
  · obtain ⟨rc, hr⟩ := hp.2.1 rfl rfl
    have hin : ∀ v, rc.testBit v = true → RcD n (attQ l) OO rc v := fun v hv => by
      rcases hr.inv rfl v hv with e | e
      · rw [Nat.zero_testBit] at e; cases e
      · exact e
    refine ⟨fun b hb => ?_, _, opp_play hroot hr.me hin⟩
    obtain ⟨rc2, hr2⟩ := hb.2.1 rfl rfl
    exact hr2.good ⟨fun v => rc.testBit v = true, hr.me, hin⟩
/-- a good line at its end is won -/
theorem PlayG.end_ {G : List Nat → Prop} (h : PlayG n k by_ root (attQ l) OO G) (hby : by_ = 1 ∨ by_ = 2) {line : List Nat} (hg : G line) (he : lgL n k (attQ l) line = []) : wnG (lgL n k (attQ l) line) line = (by_ : Int) := by
  have hm : mvr line ≠ by_ := fun e => by
    obtain ⟨y, -, hy, -⟩ := h.mine line hg e
    rw [he] at hy; cases hy
  unfold wnG
  rw [if_pos he]
  unfold mvr at hm
  rcases hby with rfl | rfl
  · rw [if_pos (by by_cases e : line.length % 2 = 1; exact e; exact absurd (if_pos (by omega)) hm)]; rfl
  · rw [if_neg (fun e => hm (if_neg (by omega)))]; rfl
theorem PlayG.short {G : List Nat → Prop} (h : PlayG n k by_ root (attQ l) OO G) (hk : k = 1 ∨ k = 2) {line : List Nat} (hg : G line) : line.length ≤ 2 * n + 1 := by
  obtain ⟨-, hx, hp, -⟩ := h.ne line hg
  exact hp.short hk hx
end
end Go.Proofs.YtncimnfhfomddaaDoor
