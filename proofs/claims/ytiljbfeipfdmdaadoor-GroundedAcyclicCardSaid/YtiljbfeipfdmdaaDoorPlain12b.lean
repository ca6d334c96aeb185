/- What the program's rounds do, in plain words: a queue, counts of attackers that are not Out. No program in sight. -/
import Derived.Test.YtiljbfeipfdmdaaDoorPlain12
import Derived.Test.YtiljbfeipfdmdaaDoorGrC
namespace Go.Proofs.YtiljbfeipfdmdaaDoor
open Go.ChangeShapes Go.WideShapes Go.ChangeAt Go.RowKit

theorem filter_drop_one {p : Int → Bool} {k : Int} (hk : p k = true) : ∀ {l : List Int}, l.Nodup → (l.filter p).length = (l.filter fun x => p x && x != k).length + if k ∈ l then 1 else 0
  | [], _ => by simp
  | y :: l, hn => by
    obtain ⟨h1, h2⟩ := List.nodup_cons.1 hn
    have ih := filter_drop_one hk h2
    by_cases e : y = k
    · subst e
      rw [if_neg h1] at ih
      simp [hk, ih]
    · have e' : ¬ k = y := fun h => e h.symm
      simp only [List.filter_cons, List.mem_cons]
      by_cases hp : p y = true
      · rw [if_pos hp, if_pos (by simp [hp, e])]
        simp only [List.length_cons, ih, e', false_or]
        omega
      · rw [if_neg hp, if_neg (by simp [hp])]
        simp only [ih, e', false_or]

/-- the attackers that are not Out -/
def cntO (l : List (Int × Int)) (L : Nat → Int) (j : Nat) : Nat := ((attackersL l j).filter fun a => L a.toNat != 2).length
theorem cnt_zero {n : Nat} {l : List (Int × Int)} (hv : InR n l) {L : Nat → Int} {j : Nat} : cntO l L j = 0 ↔ ∀ a, att l a j → L a = 2 := by
  unfold cntO
  rw [List.length_eq_zero_iff, List.filter_eq_nil_iff]
  constructor
  · intro h a ha
    have := h a (mem_attackersL.2 ha)
    simpa using this
  · intro h x hx
    obtain ⟨a, rfl, _, ha⟩ := attacker_nat hv hx
    simpa using h a ha
theorem sorted_nodup {l : List Int} (h : l.Pairwise (· < ·)) : l.Nodup := h.imp fun hab => by omega
theorem cnt_upd {n : Nat} {l : List (Int × Int)} (hv : Vld n l) {L : Nat → Int} {k : Nat} (hk : L k ≠ 2) (j : Nat) :
    cntO l L j = cntO l (upd L k 2) j + if (j : Int) ∈ attackedL l k then 1 else 0 := by
  unfold cntO
  have h1 : (attackersL l j).filter (fun a => upd L k 2 a.toNat != 2) = (attackersL l j).filter fun a => (L a.toNat != 2) && a != (k : Int) := by
    apply List.filter_congr
    intro x hx
    obtain ⟨a, rfl, _, _⟩ := attacker_nat hv.1 hx
    unfold upd
    by_cases e : a = k
    · subst e; simp
    · simp [e]; intro _; omega
  rw [h1, filter_drop_one (p := fun a => L a.toNat != 2) (k := (k : Int)) (by simpa using hk) (sorted_nodup (attackersL_sorted hv.2 j))]
  congr 1
  simp only [mem_attackersL, mem_attackedL]
theorem cnt_congr {n : Nat} {l : List (Int × Int)} (hv : InR n l) {L M : Nat → Int} (h : ∀ a, a < n → (L a = 2 ↔ M a = 2)) (j : Nat) : cntO l L j = cntO l M j := by
  unfold cntO
  congr 1
  apply List.filter_congr
  intro x hx
  obtain ⟨a, rfl, ha, _⟩ := attacker_nat hv hx
  rw [Bool.eq_iff_iff]
  have := h a ha
  simp [this]

/-- the labels and ranks while a round goes on: M, MR with the nodes of q In already; some that they attack are Out -/
def CurI (l : List (Int × Int)) (M MR : Nat → Int) (r : Int) (q : List Int) (L R : Nat → Int) : Prop :=
  ∀ i, (L i = M i ∧ R i = MR i) ∨ (M i = 3 ∧ L i = 2 ∧ R i = r ∧ ∃ x ∈ q, (x, (i : Int)) ∈ l)
/-- the counts and the nodes that become In next -/
structure OpI (n : Nat) (l : List (Int × Int)) (L op : Nat → Int) (nx : List Int) (ks : List Int) : Prop where
  cnt : ∀ j, j < n → op j = cntO l L j + if (j : Int) ∈ ks then 1 else 0
  nodup : nx.Nodup
  mem : ∀ x, x ∈ nx ↔ ∃ j : Nat, j < n ∧ x = j ∧ L j = 3 ∧ op j = 0
/-- the labels once the queue's nodes are In -/
def midL (n : Nat) (l : List (Int × Int)) (L : Nat → Int) : Nat → Int := fun i => if frB n l L i then 1 else L i
def midR (n : Nat) (l : List (Int × Int)) (L : Nat → Int) (r : Int) (R : Nat → Int) : Nat → Int := fun i => if frB n l L i then r else R i
/-- the queue holds the nodes that become In -/
def QueI (n : Nat) (l : List (Int × Int)) (L : Nat → Int) (q : List Int) : Prop := ∀ x, x ∈ q ↔ ∃ j : Nat, x = j ∧ frB n l L j = true

theorem QueI.nat {n : Nat} {l : List (Int × Int)} {L : Nat → Int} {q : List Int} (h : QueI n l L q) {x : Int} (hx : x ∈ q) : ∃ j : Nat, x = j ∧ j < n ∧ frB n l L j = true := by
  obtain ⟨j, rfl, hj⟩ := (h x).1 hx
  refine ⟨j, rfl, ?_, hj⟩
  unfold frB at hj
  simp only [Bool.and_eq_true, decide_eq_true_eq] at hj
  exact hj.1.1

/-- behind the first loop of a round -/
theorem mid_start {n : Nat} {l : List (Int × Int)} (hv : Vld n l) {L R op : Nat → Int} {q : List Int} {r : Int} (hc : ∀ j, j < n → op j = cntO l L j) :
    CurI l (midL n l L) (midR n l L r R) r q (midL n l L) (midR n l L r R) ∧ OpI n l (midL n l L) op [] [] := by
  have hsame : ∀ j, cntO l (midL n l L) j = cntO l L j := fun j => by
    refine cnt_congr hv.1 (fun a _ => ?_) j
    unfold midL
    cases hf : frB n l L a
    · simp
    · have := ((frB_iff hv.1).1 hf).2.1
      simp [this]
  refine ⟨fun i => .inl ⟨rfl, rfl⟩, ⟨fun j hj => by rw [hc j hj, hsame]; simp, List.nodup_nil, fun x => ⟨(fun h => by cases h), ?_⟩⟩⟩
  rintro ⟨j, hj, rfl, h3, h0⟩
  exfalso
  have h0' : cntO l L j = 0 := by have := hc j hj; omega
  unfold midL at h3
  cases hf : frB n l L j
  · rw [hf] at h3
    simp at h3
    have : frB n l L j = true := (frB_iff hv.1).2 ⟨hj, h3, (cnt_zero hv.1).1 h0'⟩
    rw [hf] at this; cases this
  · rw [hf] at h3; simp at h3

/-- an undecided node that a node of the queue attacks becomes Out -/
theorem cur_out {n : Nat} {l : List (Int × Int)} (hv : Vld n l) {L0 M MR L R op : Nat → Int} {q nx : List Int} {r : Int} (hM : M = midL n l L0) (hq : QueI n l L0 q) (hc : CurI l M MR r q L R) (ho : OpI n l L op nx [])
    {i k : Nat} (hi : (i : Int) ∈ q) (hik : att l i k) (hk : L k = 3) : CurI l M MR r q (upd L k 2) (upd R k r) ∧ OpI n l (upd L k 2) op nx (attackedL l k) := by
  have hkn := (att_lt hv.1 hik).2
  have hM3 : M k = 3 := by
    rcases hc k with ⟨h, _⟩ | ⟨_, h, _⟩
    · omega
    · omega
  have hi1 : L i = 1 := by
    obtain ⟨j, hj, _, hfr⟩ := hq.nat hi
    have hj' : i = j := by omega
    subst hj'
    have h1 : M i = 1 := by rw [hM]; simp [midL, hfr]
    rcases hc i with ⟨h, _⟩ | ⟨h, _⟩
    · omega
    · omega
  refine ⟨fun j => ?_, ⟨fun j hj => ?_, ho.nodup, fun x => ?_⟩⟩
  · by_cases e : j = k
    · subst e
      exact .inr ⟨hM3, upd_same _ _ _, upd_same _ _ _, _, hi, hik⟩
    · rw [upd_ne e, upd_ne e]; exact hc j
  · have h1 := ho.cnt j hj
    have h2 := cnt_upd hv (L := L) (k := k) (by omega) j
    rw [if_neg (by simp)] at h1
    rw [h1, h2]
    split <;> simp
  · rw [ho.mem]
    constructor
    · rintro ⟨j, hj, rfl, h3, h0⟩
      refine ⟨j, hj, rfl, ?_, h0⟩
      rw [upd_ne]
      · exact h3
      · rintro rfl
        have h1 := ho.cnt j hj
        rw [if_neg (by simp), h0] at h1
        have h2 : cntO l L j = 0 := by omega
        have := (cnt_zero hv.1).1 h2 i hik
        omega
    · rintro ⟨j, hj, rfl, h3, h0⟩
      refine ⟨j, hj, rfl, ?_, h0⟩
      by_cases e : j = k
      · subst e; rw [upd_same] at h3; omega
      · rwa [upd_ne e] at h3

/-- one count is lowered -/
theorem op_step {n : Nat} {l : List (Int × Int)} {L op : Nat → Int} {nx ks : List Int} {j : Nat} (hj : j < n) (hn : ((j : Int) :: ks).Nodup) (ho : OpI n l L op nx ((j : Int) :: ks)) :
    (op j - 1 = 0 ∧ L j = 3 → OpI n l L (upd op j (op j - 1)) (nx ++ [(j : Int)]) ks) ∧ (¬ (op j - 1 = 0 ∧ L j = 3) → OpI n l L (upd op j (op j - 1)) nx ks) := by
  obtain ⟨hnot, _⟩ := List.nodup_cons.1 hn
  have hcj := ho.cnt j hj
  rw [if_pos (List.mem_cons_self ..)] at hcj
  have hcnt : ∀ i, i < n → upd op j (op j - 1) i = cntO l L i + if (i : Int) ∈ ks then 1 else 0 := fun i hi => by
    by_cases e : i = j
    · subst e; rw [upd_same, if_neg hnot]; omega
    · rw [upd_ne e, ho.cnt i hi]
      congr 1
      have : ((i : Int) ∈ (j : Int) :: ks) ↔ (i : Int) ∈ ks := by
        rw [List.mem_cons]
        exact ⟨fun h => h.elim (fun h => absurd (by omega) e) id, .inr⟩
      simp only [this]
  have hjn : (j : Int) ∉ nx := fun h => by
    obtain ⟨i, _, e, _, h0⟩ := (ho.mem _).1 h
    have : i = j := by omega
    subst this; omega
  have old : ∀ i, i ≠ j → ((L i = 3 ∧ op i = 0) ↔ (L i = 3 ∧ upd op j (op j - 1) i = 0)) := fun i hi => by rw [upd_ne hi]
  refine ⟨fun hz => ⟨hcnt, ?_, fun x => ?_⟩, fun hz => ⟨hcnt, ho.nodup, fun x => ?_⟩⟩
  · rw [List.nodup_append]
    refine ⟨ho.nodup, by simp, fun a ha b hb => ?_⟩
    rw [List.mem_singleton] at hb
    rintro rfl
    subst hb
    exact hjn ha
  · rw [List.mem_append, List.mem_singleton, ho.mem]
    constructor
    · rintro (⟨i, hi, rfl, h3, h0⟩ | rfl)
      · have e : i ≠ j := fun e => by subst e; omega
        exact ⟨i, hi, rfl, (old i e).1 ⟨h3, h0⟩⟩
      · exact ⟨j, hj, rfl, hz.2, by rw [upd_same]; exact hz.1⟩
    · rintro ⟨i, hi, rfl, h3, h0⟩
      by_cases e : i = j
      · subst e; exact .inr rfl
      · exact .inl ⟨i, hi, rfl, (old i e).2 ⟨h3, h0⟩⟩
  · rw [ho.mem]
    constructor
    · rintro ⟨i, hi, rfl, h3, h0⟩
      have e : i ≠ j := fun e => by subst e; omega
      exact ⟨i, hi, rfl, (old i e).1 ⟨h3, h0⟩⟩
    · rintro ⟨i, hi, rfl, h3, h0⟩
      have e : i ≠ j := fun e => by subst e; rw [upd_same] at h0; exact hz ⟨h0, h3⟩
      exact ⟨i, hi, rfl, (old i e).2 ⟨h3, h0⟩⟩

/-- the end of a round -/
theorem round_end {n : Nat} {l : List (Int × Int)} (hv : Vld n l) {L0 R0 L R op : Nat → Int} {q nx : List Int} {r : Int} (hq : QueI n l L0 q) (hc : CurI l (midL n l L0) (midR n l L0 r R0) r q L R) (ho : OpI n l L op nx [])
    (hd : ∀ x ∈ q, ∀ j : Nat, (x, (j : Int)) ∈ l → L j ≠ 3) : L = nxL n l L0 ∧ R = nxR n l L0 r R0 ∧ (∀ j, j < n → op j = cntO l L j) ∧ QueI n l L nx := by
  have key : ∀ i, L i = nxL n l L0 i ∧ R i = nxR n l L0 r R0 i := fun i => by
    rcases hc i with ⟨h1, h2⟩ | ⟨h1, h2, h3, x, hx, hxi⟩
    · cases hf : frB n l L0 i
      · cases hh : gHitB n l L0 i
        · simp [nxL, nxR, midL, midR, hf, hh] at h1 h2 ⊢; exact ⟨h1, h2⟩
        · exfalso
          obtain ⟨h3, _, a, ha, hfa⟩ := (gHitB_iff hv.1).1 hh
          have h4 := hd (a : Int) ((hq _).2 ⟨a, rfl, hfa⟩) i ha
          rw [h1] at h4
          simp [midL, hf] at h4
          exact h4 h3
      · simp [nxL, nxR, midL, midR, hf] at h1 h2 ⊢; exact ⟨h1, h2⟩
    · obtain ⟨a, rfl, _, hfa⟩ := hq.nat hx
      have hnf := not_free_of_free hv.1 hfa hxi
      have hL3 : L0 i = 3 := by simpa [midL, hnf] using h1
      have hh : gHitB n l L0 i = true := (gHitB_iff hv.1).2 ⟨hL3, hnf, a, hxi, hfa⟩
      simp [nxL, nxR, hnf, hh, h2, h3]
  have e1 : L = nxL n l L0 := funext fun i => (key i).1
  refine ⟨e1, funext fun i => (key i).2, fun j hj => by rw [ho.cnt j hj]; simp, fun x => ?_⟩
  rw [ho.mem]
  constructor
  · rintro ⟨j, hj, rfl, h3, h0⟩
    have h1 := ho.cnt j hj
    rw [h0] at h1
    simp at h1
    exact ⟨j, rfl, (frB_iff hv.1).2 ⟨hj, h3, (cnt_zero hv.1).1 (by omega)⟩⟩
  · rintro ⟨j, rfl, hf⟩
    obtain ⟨h1, h2, h3⟩ := (frB_iff hv.1).1 hf
    exact ⟨j, h1, rfl, h2, by rw [ho.cnt j h1, (cnt_zero hv.1).2 h3]; simp⟩

/-- the start -/
theorem que_start {n : Nat} {l : List (Int × Int)} (hv : InR n l) {op : Nat → Int} (hc : ∀ j, j < n → op j = (attackersL l j).length) :
    (∀ j, j < n → op j = cntO l (stL n l 0) j) ∧ QueI n l (stL n l 0) (nodesB n fun i => op i == 0) := by
  have h1 : ∀ j, cntO l (stL n l 0) j = (attackersL l j).length := fun j => by
    unfold cntO
    rw [List.filter_eq_self.2 (fun a _ => by simp [stL])]
  have h2 : ∀ j, j < n → op j = cntO l (stL n l 0) j := fun j hj => by rw [hc j hj, h1]
  refine ⟨h2, fun x => ?_⟩
  rw [mem_nodesB]
  constructor
  · rintro ⟨j, hj, h0, rfl⟩
    refine ⟨j, rfl, (frB_iff hv).2 ⟨hj, rfl, (cnt_zero hv).1 ?_⟩⟩
    have := h2 j hj
    simp at h0
    omega
  · rintro ⟨j, rfl, hf⟩
    obtain ⟨h3, _, h4⟩ := (frB_iff hv).1 hf
    refine ⟨j, h3, ?_, rfl⟩
    have := h2 j h3
    rw [(cnt_zero hv).2 h4] at this
    simp [this]
theorem que_nil {n : Nat} {l : List (Int × Int)} {L : Nat → Int} (h : QueI n l L []) : restB n l L := fun i _ => by
  cases hb : frB n l L i
  · rfl
  · have := (h i).2 ⟨i, rfl, hb⟩
    cases this
theorem que_some {n : Nat} {l : List (Int × Int)} {L : Nat → Int} {q : List Int} (h : QueI n l L q) (hq : 0 < q.length) : ¬ restB n l L := fun hr => by
  obtain ⟨x, hx⟩ := List.exists_mem_of_length_pos hq
  obtain ⟨j, _, hj, hf⟩ := h.nat hx
  rw [hr j hj] at hf; cases hf
/-- the first loop of a round -/
def setQ (q : List Int) (x : Int) (L : Nat → Int) : Nat → Int := fun i => if inB q i then x else L i
theorem setQ_step {q : List Int} {x : Int} {L : Nat → Int} {k j : Nat} (h : k < q.length) (hj : q[k] = (j : Int)) : setQ (q.take (k + 1)) x L = upd (setQ (q.take k) x L) j x := by
  funext i
  unfold setQ upd
  rw [List.take_succ_eq_append_getElem h, hj]
  have e : inB (q.take k ++ [(j : Int)]) i = (inB (q.take k) i || decide (i = j)) := by
    rw [Bool.eq_iff_iff]
    simp only [inB_iff, List.mem_append, List.mem_singleton, Bool.or_eq_true, decide_eq_true_eq]
    constructor
    · rintro (h | h)
      · exact .inl h
      · exact .inr (by omega)
    · rintro (h | h)
      · exact .inl h
      · exact .inr (by omega)
  rw [e]
  by_cases h1 : i = j
  · simp [h1]
  · simp [h1]
theorem setQ_all {n : Nat} {l : List (Int × Int)} {L0 : Nat → Int} {q : List Int} (h : QueI n l L0 q) (x : Int) (L : Nat → Int) : setQ q x L = fun i => if frB n l L0 i then x else L i := by
  funext i
  unfold setQ
  have e : inB q i = frB n l L0 i := by
    rw [Bool.eq_iff_iff, inB_iff, h]
    constructor
    · rintro ⟨j, e, hf⟩
      have : i = j := by omega
      subst this; exact hf
    · intro hf; exact ⟨i, rfl, hf⟩
  rw [e]
end Go.Proofs.YtiljbfeipfdmdaaDoor
