import Derived.Test.YtncimnfhfomddaaDoorRfP
/- The duties of a set are disjoint, every change that makes the set acceptable meets each of them, and strict's changes suffice: plain. -/
namespace Go.Proofs.YtncimnfhfomddaaDoor
open Go.ChangeShapes Go.WideShapes Go.ChangeAt Go.RowKit

/-- the set is acceptable -/
def AccP (n : Nat) (H : List (Int × Int)) (s : List Int) (kind : Int) : Prop :=
  (∀ x ∈ s, ∀ y ∈ s, (x, y) ∉ H) ∧ ∀ a : Nat, a < n → (a : Int) ∉ s → (kind = 2 ∨ ∃ x ∈ s, ((a : Int), x) ∈ H) → ∃ x ∈ s, (x, (a : Int)) ∈ H
section
variable {n : Nat} {H : List (Int × Int)} {s : List Int} {kind : Int}
theorem fre_iff : freB H s = true ↔ ∀ x ∈ s, ∀ y ∈ s, (x, y) ∉ H := by
  unfold freB atkB
  rw [List.all_eq_true]
  constructor
  · intro h x hx y hy hm
    have := h y hy
    rw [Bool.not_eq_true', List.any_eq_false] at this
    exact this x hx (hasB_iff.2 hm)
  · intro h y hy
    rw [Bool.not_eq_true', List.any_eq_false]
    intro x hx hm
    exact h x hx y hy (hasB_iff.1 hm)
theorem atk_iff {a : Int} : atkB H s a = true ↔ ∃ x ∈ s, (x, a) ∈ H := by
  unfold atkB
  rw [List.any_eq_true]
  exact ⟨fun ⟨x, hx, h⟩ => ⟨x, hx, hasB_iff.1 h⟩, fun ⟨x, hx, h⟩ => ⟨x, hx, hasB_iff.2 h⟩⟩
theorem stb_acc : stbB n H s = true ↔ AccP n H s 2 := by
  unfold stbB AccP
  rw [Bool.and_eq_true, fre_iff, List.all_eq_true, And.comm]
  refine and_congr_right fun hf => ⟨fun h a ha hns _ => ?_, fun h a ha => ?_⟩
  · have := h a (List.mem_range.2 ha)
    rw [Bool.or_eq_true, inB_iff] at this
    rcases this with h1 | h1
    · exact absurd h1 hns
    · exact atk_iff.1 h1
  · rw [Bool.or_eq_true, inB_iff]
    by_cases h1 : (a : Int) ∈ s
    · exact .inl h1
    · exact .inr (atk_iff.2 (h a (List.mem_range.1 ha) h1 (.inl rfl)))
theorem adm_acc (hv : InR n H) : admB H s = true ↔ AccP n H s 1 := by
  unfold admB AccP
  rw [Bool.and_eq_true, fre_iff, List.all_eq_true, And.comm]
  refine and_congr_right fun hf => ⟨fun h a ha hns hk => ?_, fun h p hp => ?_⟩
  · obtain ⟨x, hx, hm⟩ := hk.resolve_left (by decide)
    have := h _ hm
    rw [Bool.or_eq_true, Bool.not_eq_true', (inB_iff _ _).2 hx] at this
    exact atk_iff.1 (this.resolve_left (by decide))
  · rw [Bool.or_eq_true, Bool.not_eq_true']
    by_cases h1 : p.2 ∈ s
    · refine .inr (atk_iff.2 ?_)
      have := hv.2.2 p hp
      obtain ⟨a, ha⟩ := Int.eq_ofNat_of_zero_le this.1
      by_cases h2 : p.1 ∈ s
      · exact absurd hp (hf _ h2 _ h1)
      · have h3 := h a (by omega) (by rw [← ha]; exact h2) (.inr ⟨p.2, h1, by rw [← ha]; exact hp⟩)
        rw [ha]; exact h3
    · exact .inl (by rw [← Bool.not_eq_true, inB_iff]; exact h1)
theorem ac_acc (_hv : InR n H) (hs : setB n s = true) (hk : kind = 1 ∨ kind = 2) : acB n H s kind = true ↔ AccP n H s kind := by
  have hfr : freeS n (attQ H) (maskN s) = true ↔ ∀ x ∈ s, ∀ y ∈ s, (x, y) ∉ H := by
    rw [freeS_iff]
    constructor
    · intro h x hx y hy hm
      have hx' := setB_range hs x hx
      have hy' := setB_range hs y hy
      obtain ⟨i, rfl⟩ := Int.eq_ofNat_of_zero_le hx'.1
      obtain ⟨j, rfl⟩ := Int.eq_ofNat_of_zero_le hy'.1
      have := h i j (by omega) (by omega) (by rw [← inB_maskN hs]; exact (inB_iff _ _).2 hx) (by rw [← inB_maskN hs]; exact (inB_iff _ _).2 hy)
      rw [attQ_iff.2 hm] at this; cases this
    · intro h i j hi hj si sj
      rw [← Bool.not_eq_true]
      intro hm
      rw [← inB_maskN hs, inB_iff] at si sj
      exact h i si j sj (attQ_iff.1 hm)
  have hhit : ∀ a : Nat, hitX n (attQ H) (maskN s) a = true ↔ ∃ x ∈ s, (x, (a : Int)) ∈ H := fun a => by rw [← atk_hitX hs]; exact atk_iff
  have hin : ∀ a : Nat, (maskN s).testBit a = true ↔ (a : Int) ∈ s := fun a => by rw [← inB_maskN hs]; exact inB_iff _ _
  unfold acB AccP
  rcases hk with rfl | rfl
  · rw [if_neg (by decide)]
    unfold adS
    rw [Bool.and_eq_true, hfr, List.all_eq_true]
    refine and_congr_right fun hf => ⟨fun h a ha hns hk => ?_, fun h a ha => ?_⟩
    · obtain ⟨x, hx, hm⟩ := hk.resolve_left (by decide)
      have hx' := setB_range hs x hx
      obtain ⟨i, rfl⟩ := Int.eq_ofNat_of_zero_le hx'.1
      have := h a (List.mem_range.2 ha)
      rw [Bool.or_eq_true, Bool.not_eq_true', foeS_iff.2 ⟨i, by omega, (hin i).2 hx, attQ_iff.2 hm⟩] at this
      exact (hhit a).1 (this.resolve_left (by decide))
    · rw [Bool.or_eq_true, Bool.not_eq_true']
      cases e : foeS n (attQ H) (maskN s) a
      · exact .inl rfl
      · obtain ⟨i, hi, si, hm⟩ := foeS_iff.1 e
        rw [hin] at si
        refine .inr ((hhit a).2 ?_)
        by_cases h2 : (a : Int) ∈ s
        · exact absurd (attQ_iff.1 hm) (hf _ h2 _ si)
        · exact h a (List.mem_range.1 ha) h2 (.inr ⟨_, si, attQ_iff.1 hm⟩)
  · rw [if_pos rfl]
    unfold stS
    rw [Bool.and_eq_true, hfr, List.all_eq_true]
    refine and_congr_right fun hf => ⟨fun h a ha hns _ => ?_, fun h a ha => ?_⟩
    · have := h a (List.mem_range.2 ha)
      rw [Bool.or_eq_true, hin] at this
      exact (hhit a).1 (this.resolve_left hns)
    · rw [Bool.or_eq_true, hin]
      by_cases h1 : (a : Int) ∈ s
      · exact .inl h1
      · exact .inr ((hhit a).2 (h a (List.mem_range.1 ha) h1 (.inl rfl)))
end
section
variable {n : Nat} {G : List (Int × Int)} {s : List Int} {kind : Int}
/-- a duty is a pair within the set, or what the set owes about a node outside -/
theorem mem_dutR {d : List (Int × Int)} : d ∈ dutR n G s kind ↔ (∃ p ∈ G, p.1 ∈ s ∧ p.2 ∈ s ∧ d = [p]) ∨ ∃ a : Nat, a < n ∧ (a : Int) ∉ s ∧ (kind = 2 ∨ kind = 1 ∧ ∃ x ∈ s, ((a : Int), x) ∈ G) ∧ (∀ x ∈ s, (x, (a : Int)) ∉ G) ∧ d = dyR G kind a s := by
  unfold dutR dutAR
  rw [List.mem_append]
  refine or_congr ?_ ?_
  · rw [List.mem_map]
    constructor
    · rintro ⟨p, hp, rfl⟩
      obtain ⟨h1, h2⟩ := List.mem_filter.1 hp
      rw [Bool.and_eq_true, inB_iff, inB_iff] at h2
      exact ⟨p, h1, h2.1, h2.2, rfl⟩
    · rintro ⟨p, h1, h2, h3, rfl⟩
      exact ⟨p, List.mem_filter.2 ⟨h1, by rw [Bool.and_eq_true, inB_iff, inB_iff]; exact ⟨h2, h3⟩⟩, rfl⟩
  · rw [List.mem_map]
    have key : ∀ a : Nat, oweR G s kind (a : Nat) = true ↔ (a : Int) ∉ s ∧ (kind = 2 ∨ kind = 1 ∧ ∃ x ∈ s, ((a : Int), x) ∈ G) ∧ (∀ x ∈ s, (x, (a : Int)) ∉ G) := fun a => by
      unfold oweR hosR
      rw [Bool.and_eq_true, Bool.and_eq_true, Bool.or_eq_true, Bool.not_eq_true', Bool.not_eq_true', ← Bool.not_eq_true, ← Bool.not_eq_true, inB_iff, atk_iff, decide_eq_true_iff, List.any_eq_true]
      constructor
      · rintro ⟨h1, h2, h3⟩
        refine ⟨h2, ?_, fun x hx hm => h3 ⟨x, hx, hm⟩⟩
        rcases h1 with h1 | ⟨x, hx, h1⟩
        · exact .inl h1
        · rw [Bool.and_eq_true, decide_eq_true_iff] at h1
          exact .inr ⟨h1.1, x, hx, hasB_iff.1 h1.2⟩
      · rintro ⟨h2, h1, h3⟩
        refine ⟨?_, h2, fun ⟨x, hx, hm⟩ => h3 x hx hm⟩
        rcases h1 with h1 | ⟨h1, x, hx, hm⟩
        · exact .inl h1
        · exact .inr ⟨x, hx, by rw [Bool.and_eq_true, decide_eq_true_iff]; exact ⟨h1, hasB_iff.2 hm⟩⟩
    constructor
    · rintro ⟨a, ha, rfl⟩
      obtain ⟨h1, h2⟩ := List.mem_filter.1 ha
      obtain ⟨h3, h4, h5⟩ := (key a).1 h2
      exact ⟨a, List.mem_range.1 h1, h3, h4, h5, rfl⟩
    · rintro ⟨a, h1, h3, h4, h5, rfl⟩
      exact ⟨a, List.mem_filter.2 ⟨List.mem_range.2 h1, (key a).2 ⟨h3, h4, h5⟩⟩, rfl⟩
/-- what makes the set acceptable meets every duty -/
theorem dut_meet {P : List (Int × Int)} (h : AccP n (tgL G P) s kind) : ∀ d ∈ dutR n G s kind, ∃ p ∈ d, p ∈ P := by
  intro d hd
  rcases mem_dutR.1 hd with ⟨p, hp, h1, h2, rfl⟩ | ⟨a, ha, hns, hk, hno, rfl⟩
  · refine ⟨p, by simp, ?_⟩
    have := h.1 p.1 h1 p.2 h2
    rw [mem_tgL] at this
    by_cases hP : p ∈ P
    · exact hP
    · exact absurd (by simp [hp, hP]) this
  · by_cases hx : ∃ x ∈ s, (x, (a : Int)) ∈ tgL G P
    · obtain ⟨x, hx, hm⟩ := hx
      refine ⟨(x, (a : Int)), (dyR_mem _).2 ⟨x, hx, .inl rfl⟩, ?_⟩
      rw [mem_tgL] at hm
      have := hno x hx
      simpa [this] using hm
    · have h2 : ¬ (kind = 2 ∨ ∃ x ∈ s, ((a : Int), x) ∈ tgL G P) := fun h3 => hx (h.2 a ha hns h3)
      rcases hk with hk | ⟨hk, x, hx2, hm⟩
      · exact absurd (.inl hk) h2
      · have h3 : ((a : Int), x) ∉ tgL G P := fun h4 => h2 (.inr ⟨x, hx2, h4⟩)
        refine ⟨((a : Int), x), (dyR_mem _).2 ⟨x, hx2, .inr ⟨rfl, hk, hasB_iff.2 hm⟩⟩, ?_⟩
        rw [mem_tgL] at h3
        by_cases hP : ((a : Int), x) ∈ P
        · exact hP
        · exact absurd (by simp [hm, hP]) h3
end
theorem meet_len {α : Type} [DecidableEq α] : ∀ (L : List (List α)) (P : List α), L.Pairwise (fun a b => ∀ p ∈ a, p ∉ b) → (∀ d ∈ L, ∃ p ∈ d, p ∈ P) → L.length ≤ P.length := by
  intro L
  induction L with
  | nil => intro P _ _; exact Nat.zero_le _
  | cons d L ih =>
    intro P hp h
    rw [List.pairwise_cons] at hp
    obtain ⟨p, hpd, hpP⟩ := h d List.mem_cons_self
    have h1 := ih (P.erase p) hp.2 (fun e he => by
      obtain ⟨q, hq, hqP⟩ := h e (List.mem_cons_of_mem _ he)
      refine ⟨q, hq, (List.mem_erase_of_ne (fun e' => hp.1 e he p hpd ?_)).2 hqP⟩
      subst e'; exact hq)
    rw [List.length_erase_of_mem hpP] at h1
    have := List.length_pos_of_mem hpP
    simp only [List.length_cons]
    omega
section
variable {n : Nat} {G : List (Int × Int)} {s : List Int} {kind : Int}
theorem dut_apart (hG : G.Nodup) : (dutR n G s kind).Pairwise fun a b => ∀ p ∈ a, p ∉ b := by
  unfold dutR dutAR
  rw [List.pairwise_append]
  refine ⟨?_, ?_, ?_⟩
  · rw [List.pairwise_map]
    refine (hG.filter _).imp fun {a b} hab p hp hq => ?_
    rw [List.mem_singleton] at hp hq
    exact hab (hp.symm.trans hq)
  · rw [List.pairwise_map]
    have hr : (List.range n).Nodup := List.nodup_range
    refine (hr.filter _).imp_of_mem fun {a b} ha hb hab p hp hq => ?_
    have ha := (List.mem_filter.1 ha).2
    have hb := (List.mem_filter.1 hb).2
    have hna : (a : Int) ∉ s := fun h => by
      unfold oweR at ha
      rw [(inB_iff _ _).2 h, Bool.not_true, Bool.false_and, Bool.and_false] at ha; cases ha
    have hnb : (b : Int) ∉ s := fun h => by
      unfold oweR at hb
      rw [(inB_iff _ _).2 h, Bool.not_true, Bool.false_and, Bool.and_false] at hb; cases hb
    obtain ⟨x, hx, e1⟩ := (dyR_mem _).1 hp
    obtain ⟨y, hy, e2⟩ := (dyR_mem _).1 hq
    rcases e1 with rfl | ⟨rfl, _⟩
    · rcases e2 with e2 | ⟨e2, _⟩
      · injection e2 with _ e2; exact hab (Int.ofNat_inj.1 e2)
      · injection e2 with e2 _; exact hnb (e2 ▸ hx)
    · rcases e2 with e2 | ⟨e2, _⟩
      · injection e2 with e2 _; exact hna (e2 ▸ hy)
      · injection e2 with e2 _; exact hab (Int.ofNat_inj.1 e2)
  · intro a ha b hb p hp hq
    obtain ⟨q, hq1, rfl⟩ := List.mem_map.1 ha
    obtain ⟨c, hc, rfl⟩ := List.mem_map.1 hb
    rw [List.mem_singleton] at hp
    subst hp
    have h1 := (List.mem_filter.1 hq1).2
    rw [Bool.and_eq_true, inB_iff, inB_iff] at h1
    have hc := (List.mem_filter.1 hc).2
    have hnc : (c : Int) ∉ s := fun h => by
      unfold oweR at hc
      rw [(inB_iff _ _).2 h, Bool.not_true, Bool.false_and, Bool.and_false] at hc; cases hc
    obtain ⟨x, hx, e | ⟨e, _⟩⟩ := (dyR_mem _).1 hq
    · rw [e] at h1; exact hnc h1.2
    · rw [e] at h1; exact hnc h1.1
/-- no fewer pairs suffice -/
theorem dut_least (hG : G.Nodup) {P : List (Int × Int)} (h : AccP n (tgL G P) s kind) : (dutR n G s kind).length ≤ P.length := meet_len _ _ (dut_apart hG) (dut_meet h)
theorem flat_nodup {α : Type} {L : List (List α)} (h1 : ∀ d ∈ L, d.Nodup) (h2 : L.Pairwise fun a b => ∀ p ∈ a, p ∉ b) : L.flatten.Nodup := by
  induction L with
  | nil => simp
  | cons d L ih =>
    rw [List.pairwise_cons] at h2
    rw [List.flatten_cons, List.nodup_append]
    refine ⟨h1 d (by simp), ih (fun e he => h1 e (List.mem_cons_of_mem _ he)) h2.2, fun a ha b hb e => ?_⟩
    subst e
    obtain ⟨f, hf, hbf⟩ := List.mem_flatten.1 hb
    exact h2.1 f hf a ha hbf
theorem dut_flat (hG : G.Nodup) (hs : s.Nodup) : (dutR n G s kind).flatten.Nodup := by
  refine flat_nodup (fun d hd => ?_) (dut_apart hG)
  rcases mem_dutR.1 hd with ⟨p, _, _, _, rfl⟩ | ⟨a, _, hns, _, _, rfl⟩
  · simp
  · exact (dyR_sorted hs hns).imp fun {a b} hab e => by subst e; exact ltP_irrefl _ hab
end
section
variable {n : Nat} {G : List (Int × Int)} {s : List Int} {kind : Int}
theorem bit_in (hs : setB n s = true) {x : Int} (h0 : 0 ≤ x) : (maskN s).testBit x.toNat = inB s x := by
  rw [← inB_maskN hs, Int.toNat_of_nonneg h0]
theorem chgP_cons (m : Nat) (s : List Int) (p : Int × Int) (r : List (Int × Int)) : chgP m s (p :: r) = if m.testBit p.1.toNat && m.testBit p.2.toNat then p else (s.headD 0, if m.testBit p.2.toNat then p.1 else p.2) := rfl
theorem chg_one (hs : setB n s = true) {p : Int × Int} (h1 : p.1 ∈ s) (h2 : p.2 ∈ s) : chgP (maskN s) s [p] = p := by
  have e1 := setB_range hs _ h1
  have e2 := setB_range hs _ h2
  rw [chgP_cons, bit_in hs e1.1, bit_in hs e2.1, (inB_iff _ _).2 h1, (inB_iff _ _).2 h2]
  rfl
theorem chg_owe (hs : setB n s = true) {a : Nat} (hns : (a : Int) ∉ s) (hne : s ≠ []) : chgP (maskN s) s (dyR G kind a s) = (s.headD 0, (a : Int)) := by
  have hna : inB s (a : Int) = false := by rw [← Bool.not_eq_true, inB_iff]; exact hns
  cases hd : dyR G kind a s with
  | nil =>
    obtain ⟨x, r, rfl⟩ := List.exists_cons_of_ne_nil hne
    have : (x, (a : Int)) ∈ dyR G kind a (x :: r) := (dyR_mem _).2 ⟨x, by simp, .inl rfl⟩
    rw [hd] at this; cases this
  | cons p r =>
    have hp : p ∈ dyR G kind a s := by rw [hd]; simp
    rw [chgP_cons]
    obtain ⟨x, hx, rfl | ⟨rfl, _, _⟩⟩ := (dyR_mem _).1 hp
    · rw [show ((x, (a : Int)) : Int × Int).2 = (a : Int) from rfl, bit_in hs (Int.natCast_nonneg a), hna, Bool.and_false]
      rfl
    · have e1 := setB_range hs _ hx
      rw [show (((a : Int), x) : Int × Int).1 = (a : Int) from rfl, show (((a : Int), x) : Int × Int).2 = x from rfl, bit_in hs (Int.natCast_nonneg a), hna, bit_in hs e1.1, (inB_iff _ _).2 hx]
      rfl
theorem dut_ne (hh : hpB n s kind = false) (hk : kind = 1 ∨ kind = 2) {a : Nat} (ha : a < n) (hk2 : kind = 2 ∨ kind = 1 ∧ ∃ x ∈ s, ((a : Int), x) ∈ G) : s ≠ [] := by
  intro e
  subst e
  rcases hk2 with rfl | ⟨_, x, hx, _⟩
  · unfold hpB at hh
    simp at hh
    omega
  · cases hx
theorem mem_strC (hv : InR n G) (hs : setB n s = true) (hh : hpB n s kind = false) (hk : kind = 1 ∨ kind = 2) {q : Int × Int} : q ∈ strC n G s kind ↔ (q ∈ G ∧ q.1 ∈ s ∧ q.2 ∈ s) ∨ ∃ a : Nat, a < n ∧ (a : Int) ∉ s ∧ (kind = 2 ∨ kind = 1 ∧ ∃ x ∈ s, ((a : Int), x) ∈ G) ∧ (∀ x ∈ s, (x, (a : Int)) ∉ G) ∧ q = (s.headD 0, (a : Int)) := by
  unfold strC
  rw [← dutR_eq hv hs hk, List.mem_map]
  constructor
  · rintro ⟨d, hd, rfl⟩
    rcases mem_dutR.1 hd with ⟨p, hp, h1, h2, rfl⟩ | ⟨a, ha, hns, hk2, hno, rfl⟩
    · rw [chg_one hs h1 h2]; exact .inl ⟨hp, h1, h2⟩
    · rw [chg_owe hs hns (dut_ne hh hk ha hk2)]; exact .inr ⟨a, ha, hns, hk2, hno, rfl⟩
  · rintro (⟨hp, h1, h2⟩ | ⟨a, ha, hns, hk2, hno, rfl⟩)
    · exact ⟨[q], mem_dutR.2 (.inl ⟨q, hp, h1, h2, rfl⟩), chg_one hs h1 h2⟩
    · exact ⟨_, mem_dutR.2 (.inr ⟨a, ha, hns, hk2, hno, rfl⟩), chg_owe hs hns (dut_ne hh hk ha hk2)⟩
theorem head_mem (h : s ≠ []) : s.headD 0 ∈ s := by
  cases s with
  | nil => exact absurd rfl h
  | cons x r => simp
theorem strC_ok (hv : InR n G) (hs : setB n s = true) (hh : hpB n s kind = false) (hk : kind = 1 ∨ kind = 2) : ∀ p ∈ strC n G s kind, okP n p := by
  intro p hp
  rcases (mem_strC hv hs hh hk).1 hp with ⟨h, _, _⟩ | ⟨a, ha, _, hk2, _, rfl⟩
  · have := hv.2.2 p h; unfold okP; omega
  · have := setB_range hs _ (head_mem (dut_ne hh hk ha hk2))
    show (0 : Int) ≤ s.headD 0 ∧ s.headD 0 < (n : Int) ∧ (0 : Int) ≤ (a : Int) ∧ (a : Int) < (n : Int)
    omega
theorem chg_in (_hv : InR n G) (hs : setB n s = true) (hh : hpB n s kind = false) (hk : kind = 1 ∨ kind = 2) : ∀ d ∈ dutR n G s kind, chgP (maskN s) s d ∈ d := by
  intro d hd
  rcases mem_dutR.1 hd with ⟨p, hp, h1, h2, rfl⟩ | ⟨a, ha, hns, hk2, hno, rfl⟩
  · rw [chg_one hs h1 h2]; simp
  · have hne := dut_ne hh hk ha hk2
    rw [chg_owe hs hns hne]
    exact (dyR_mem _).2 ⟨_, head_mem hne, .inl rfl⟩
theorem strC_nodup (hv : Vld n G) (hs : setB n s = true) (hh : hpB n s kind = false) (hk : kind = 1 ∨ kind = 2) : (strC n G s kind).Nodup := by
  unfold strC
  rw [← dutR_eq hv.1 hs hk]
  have hap := dut_apart (n := n) (s := s) (kind := kind) (vld_nodup hv)
  have hin := chg_in hv.1 hs hh hk
  generalize dutR n G s kind = L at *
  show List.Pairwise (· ≠ ·) _
  rw [List.pairwise_map]
  exact hap.imp_of_mem fun {a b} ha hb h e => h _ (hin a ha) (e ▸ hin b hb)
/-- strict's changes make the set acceptable -/
theorem strC_acc (hv : Vld n G) (hs : setB n s = true) (hh : hpB n s kind = false) (hk : kind = 1 ∨ kind = 2) : AccP n (tgL G (strC n G s kind)) s kind := by
  have hm := fun {q} => mem_strC (q := q) hv.1 hs hh hk
  refine ⟨fun x hx y hy h => ?_, fun a ha hns hk2 => ?_⟩
  · rw [mem_tgL] at h
    by_cases hG : (x, y) ∈ G
    · have : (x, y) ∈ strC n G s kind := hm.2 (.inl ⟨hG, hx, hy⟩)
      simp [hG, this] at h
    · have h2 : (x, y) ∈ strC n G s kind := by simpa [hG] using h
      rcases hm.1 h2 with ⟨h3, _⟩ | ⟨a, _, hns, _, _, e⟩
      · exact hG h3
      · injection e with _ e; exact hns (e ▸ hy)
  · by_cases hit : ∃ x ∈ s, (x, (a : Int)) ∈ G
    · obtain ⟨x, hx, hxG⟩ := hit
      refine ⟨x, hx, ?_⟩
      rw [mem_tgL]
      have : (x, (a : Int)) ∉ strC n G s kind := fun h => by
        rcases hm.1 h with ⟨_, _, h3⟩ | ⟨b, _, _, _, hno, e⟩
        · exact hns h3
        · injection e with e1 e2
          exact hno x hx (e2 ▸ hxG)
      simp [hxG, this]
    · have hno : ∀ x ∈ s, (x, (a : Int)) ∉ G := fun x hx h => hit ⟨x, hx, h⟩
      have hk3 : kind = 2 ∨ kind = 1 ∧ ∃ x ∈ s, ((a : Int), x) ∈ G := by
        rcases hk with rfl | rfl
        · obtain ⟨x, hx, h⟩ := hk2.resolve_left (by decide)
          refine .inr ⟨rfl, x, hx, ?_⟩
          rw [mem_tgL] at h
          by_cases hG : ((a : Int), x) ∈ G
          · exact hG
          · have h2 : ((a : Int), x) ∈ strC n G s 1 := by simpa [hG] using h
            rcases hm.1 h2 with ⟨h3, _⟩ | ⟨b, hb, hnb, hkb, _, e⟩
            · exact h3
            · injection e with e1 _
              exact absurd (e1 ▸ head_mem (dut_ne hh (.inl rfl) hb hkb)) hns
        · exact .inl rfl
      have hne := dut_ne hh hk ha hk3
      refine ⟨s.headD 0, head_mem hne, ?_⟩
      have h1 := hno _ (head_mem hne)
      have h2 : (s.headD 0, (a : Int)) ∈ strC n G s kind := hm.2 (.inr ⟨a, ha, hns, hk3, hno, rfl⟩)
      rw [mem_tgL, decide_eq_false h1, decide_eq_true h2]
      rfl
/-- no change is needed exactly if the set is acceptable -/
theorem strC_none (hv : Vld n G) (hs : setB n s = true) (hh : hpB n s kind = false) (hk : kind = 1 ∨ kind = 2) : strC n G s kind = [] ↔ AccP n G s kind := by
  have ht : tgL G [] = G := sortedP_ext _ _ (tgL_sorted (vld_nodup hv) List.nodup_nil) hv.2 fun x => by rw [mem_tgL]; simp
  constructor
  · intro e
    have := strC_acc hv hs hh hk
    rwa [e, ht] at this
  · intro h
    have := dut_least (P := []) (vld_nodup hv) (n := n) (s := s) (kind := kind) (by rw [ht]; exact h)
    unfold strC
    rw [← dutR_eq hv.1 hs hk]
    rw [List.eq_nil_of_length_eq_zero (Nat.le_zero.1 this)]
    rfl
end
end Go.Proofs.YtncimnfhfomddaaDoor
