import Derived.Test.YtncimnfhfomddaaDoorP12
import Derived.Test.YtncimnfhfomddaaDoorGr
import Derived.Test.YtncimnfhfomddaaDoorRef13
import Derived.Test.YtncimnfhfomddaaDoorGenM
import Derived.Deep.DeepCutAuto
/- What the program's rounds do, in plain words: a queue, counts of attackers that are not Out. No program in sight. -/
namespace Go.Proofs.YtncimnfhfomddaaDoor
open Go.ChangeShapes Go.WideShapes Go.ChangeAt Go.RowKit

theorem filter_drop_one {p : Int → Bool} {k : Int} (hk : p k = true) : ∀ {l : List Int}, l.Nodup → (l.filter p).length = (l.filter fun x => p x && x != k).length + if k ∈ l then 1 else 0
  | [], _ => by simp
  | y :: l, hn => by
    obtain ⟨h1, h2⟩ := List.nodup_cons.1 hn
    have ih := filter_drop_one hk h2
    by_cases e : y = k
    · subst e
      rw [if_neg h1] at ih
      simp [hk, ih]
    · have e' : ¬ k = y := fun h => e h.symm
      simp only [List.filter_cons, List.mem_cons]
      by_cases hp : p y = true
      · rw [if_pos hp, if_pos (by simp [hp, e])]
        simp only [List.length_cons, ih, e', false_or]
        omega
      · rw [if_neg hp, if_neg (by simp [hp])]
        simp only [ih, e', false_or]

/-- the attackers that are not Out -/
def cntO (l : List (Int × Int)) (L : Nat → Int) (j : Nat) : Nat := ((attackersL l j).filter fun a => L a.toNat != 2).length
theorem cnt_zero {n : Nat} {l : List (Int × Int)} (hv : InR n l) {L : Nat → Int} {j : Nat} : cntO l L j = 0 ↔ ∀ a, att l a j → L a = 2 := by
  unfold cntO
  rw [List.length_eq_zero_iff, List.filter_eq_nil_iff]
  constructor
  · intro h a ha
    have := h a (mem_attackersL.2 ha)
    simpa using this
  · intro h x hx
    obtain ⟨a, rfl, _, ha⟩ := attacker_nat hv hx
    simpa using h a ha
theorem sorted_nodup {l : List Int} (h : l.Pairwise (· < ·)) : l.Nodup := h.imp fun hab => by omega
theorem cnt_upd {n : Nat} {l : List (Int × Int)} (hv : Vld n l) {L : Nat → Int} {k : Nat} (hk : L k ≠ 2) (j : Nat) :
    cntO l L j = cntO l (upd L k 2) j + if (j : Int) ∈ attackedL l k then 1 else 0 := by
  unfold cntO
  have h1 : (attackersL l j).filter (fun a => upd L k 2 a.toNat != 2) = (attackersL l j).filter fun a => (L a.toNat != 2) && a != (k : Int) := by
    apply List.filter_congr
    intro x hx
    obtain ⟨a, rfl, _, _⟩ := attacker_nat hv.1 hx
    unfold upd
    by_cases e : a = k
    · subst e; simp
    · simp [e]; intro _; omega
  rw [h1, filter_drop_one (p := fun a => L a.toNat != 2) (k := (k : Int)) (by simpa using hk) (sorted_nodup (attackersL_sorted hv.2 j))]
  congr 1
  simp only [mem_attackersL, mem_attackedL]
theorem cnt_congr {n : Nat} {l : List (Int × Int)} (hv : InR n l) {L M : Nat → Int} (h : ∀ a, a < n → (L a = 2 ↔ M a = 2)) (j : Nat) : cntO l L j = cntO l M j := by
  unfold cntO
  congr 1
  apply List.filter_congr
  intro x hx
  obtain ⟨a, rfl, ha, _⟩ := attacker_nat hv hx
  rw [Bool.eq_iff_iff]
  have := h a ha
  simp [this]

/-- the labels and ranks while a round goes on: M, MR with the nodes of q In already; some that they attack are Out -/
def CurI (l : List (Int × Int)) (M MR : Nat → Int) (r : Int) (q : List Int) (L R : Nat → Int) : Prop :=
  ∀ i, (L i = M i ∧ R i = MR i) ∨ (M i = 3 ∧ L i = 2 ∧ R i = r ∧ ∃ x ∈ q, (x, (i : Int)) ∈ l)
/-- the counts and the nodes that become In next -/
structure OpI (n : Nat) (l : List (Int × Int)) (L op : Nat → Int) (nx : List Int) (ks : List Int) : Prop where
  cnt : ∀ j, j < n → op j = cntO l L j + if (j : Int) ∈ ks then 1 else 0
  nodup : nx.Nodup
  mem : ∀ x, x ∈ nx ↔ ∃ j : Nat, j < n ∧ x = j ∧ L j = 3 ∧ op j = 0
/-- the labels once the queue's nodes are In -/
def midL (n : Nat) (l : List (Int × Int)) (L : Nat → Int) : Nat → Int := fun i => if frB n l L i then 1 else L i
def midR (n : Nat) (l : List (Int × Int)) (L : Nat → Int) (r : Int) (R : Nat → Int) : Nat → Int := fun i => if frB n l L i then r else R i
/-- the queue holds the nodes that become In -/
def QueI (n : Nat) (l : List (Int × Int)) (L : Nat → Int) (q : List Int) : Prop := ∀ x, x ∈ q ↔ ∃ j : Nat, x = j ∧ frB n l L j = true

theorem QueI.nat {n : Nat} {l : List (Int × Int)} {L : Nat → Int} {q : List Int} (h : QueI n l L q) {x : Int} (hx : x ∈ q) : ∃ j : Nat, x = j ∧ j < n ∧ frB n l L j = true := by
  obtain ⟨j, rfl, hj⟩ := (h x).1 hx
  refine ⟨j, rfl, ?_, hj⟩
  unfold frB at hj
  simp only [Bool.and_eq_true, decide_eq_true_eq] at hj
  exact hj.1.1

/-- behind the first loop of a round -/
theorem mid_start {n : Nat} {l : List (Int × Int)} (hv : Vld n l) {L R op : Nat → Int} {q : List Int} {r : Int} (hc : ∀ j, j < n → op j = cntO l L j) :
    CurI l (midL n l L) (midR n l L r R) r q (midL n l L) (midR n l L r R) ∧ OpI n l (midL n l L) op [] [] := by
  have hsame : ∀ j, cntO l (midL n l L) j = cntO l L j := fun j => by
    refine cnt_congr hv.1 (fun a _ => ?_) j
    unfold midL
    cases hf : frB n l L a
    · simp
    · have := ((frB_iff hv.1).1 hf).2.1
      simp [this]
  refine ⟨fun i => .inl ⟨rfl, rfl⟩, ⟨fun j hj => by rw [hc j hj, hsame]; simp, List.nodup_nil, fun x => ⟨(fun h => by cases h), ?_⟩⟩⟩
  rintro ⟨j, hj, rfl, h3, h0⟩
  exfalso
  have h0' : cntO l L j = 0 := by have := hc j hj; omega
  unfold midL at h3
  cases hf : frB n l L j
  · rw [hf] at h3
    simp at h3
    have : frB n l L j = true := (frB_iff hv.1).2 ⟨hj, h3, (cnt_zero hv.1).1 h0'⟩
    rw [hf] at this; cases this
  · rw [hf] at h3; simp at h3

/-- an undecided node that a node of the queue attacks becomes Out -/
theorem cur_out {n : Nat} {l : List (Int × Int)} (hv : Vld n l) {L0 M MR L R op : Nat → Int} {q nx : List Int} {r : Int} (hM : M = midL n l L0) (hq : QueI n l L0 q) (hc : CurI l M MR r q L R) (ho : OpI n l L op nx [])
    {i k : Nat} (hi : (i : Int) ∈ q) (hik : att l i k) (hk : L k = 3) : CurI l M MR r q (upd L k 2) (upd R k r) ∧ OpI n l (upd L k 2) op nx (attackedL l k) := by
  have hkn := (att_lt hv.1 hik).2
  have hM3 : M k = 3 := by
    rcases hc k with ⟨h, _⟩ | ⟨_, h, _⟩
    · omega
    · omega
  have hi1 : L i = 1 := by
    obtain ⟨j, hj, _, hfr⟩ := hq.nat hi
    have hj' : i = j := by omega
    subst hj'
    have h1 : M i = 1 := by rw [hM]; simp [midL, hfr]
    rcases hc i with ⟨h, _⟩ | ⟨h, _⟩
    · omega
    · omega
  refine ⟨fun j => ?_, ⟨fun j hj => ?_, ho.nodup, fun x => ?_⟩⟩
  · by_cases e : j = k
    · subst e
      exact .inr ⟨hM3, upd_same _ _ _, upd_same _ _ _, _, hi, hik⟩
    · rw [upd_ne e, upd_ne e]; exact hc j
  · have h1 := ho.cnt j hj
    have h2 := cnt_upd hv (L := L) (k := k) (by omega) j
    rw [if_neg (by simp)] at h1
    rw [h1, h2]
    split <;> simp
  · rw [ho.mem]
    constructor
    · rintro ⟨j, hj, rfl, h3, h0⟩
      refine ⟨j, hj, rfl, ?_, h0⟩
      rw [upd_ne]
      · exact h3
      · rintro rfl
        have h1 := ho.cnt j hj
        rw [if_neg (by simp), h0] at h1
        have h2 : cntO l L j = 0 := by omega
        have := (cnt_zero hv.1).1 h2 i hik
        omega
    · rintro ⟨j, hj, rfl, h3, h0⟩
      refine ⟨j, hj, rfl, ?_, h0⟩
      by_cases e : j = k
      · subst e; rw [upd_same] at h3; omega
      · rwa [upd_ne e] at h3

/-- one count is lowered -/
theorem op_step {n : Nat} {l : List (Int × Int)} {L op : Nat → Int} {nx ks : List Int} {j : Nat} (hj : j < n) (hn : ((j : Int) :: ks).Nodup) (ho : OpI n l L op nx ((j : Int) :: ks)) :
    (op j - 1 = 0 ∧ L j = 3 → OpI n l L (upd op j (op j - 1)) (nx ++ [(j : Int)]) ks) ∧ (¬ (op j - 1 = 0 ∧ L j = 3) → OpI n l L (upd op j (op j - 1)) nx ks) := by
  obtain ⟨hnot, _⟩ := List.nodup_cons.1 hn
  have hcj := ho.cnt j hj
  rw [if_pos (List.mem_cons_self ..)] at hcj
  have hcnt : ∀ i, i < n → upd op j (op j - 1) i = cntO l L i + if (i : Int) ∈ ks then 1 else 0 := fun i hi => by
    by_cases e : i = j
    · subst e; rw [upd_same, if_neg hnot]; omega
    · rw [upd_ne e, ho.cnt i hi]
      congr 1
      have : ((i : Int) ∈ (j : Int) :: ks) ↔ (i : Int) ∈ ks := by
        rw [List.mem_cons]
        exact ⟨fun h => h.elim (fun h => absurd (by omega) e) id, .inr⟩
      simp only [this]
  have hjn : (j : Int) ∉ nx := fun h => by
    obtain ⟨i, _, e, _, h0⟩ := (ho.mem _).1 h
    have : i = j := by omega
    subst this; omega
  have old : ∀ i, i ≠ j → ((L i = 3 ∧ op i = 0) ↔ (L i = 3 ∧ upd op j (op j - 1) i = 0)) := fun i hi => by rw [upd_ne hi]
  refine ⟨fun hz => ⟨hcnt, ?_, fun x => ?_⟩, fun hz => ⟨hcnt, ho.nodup, fun x => ?_⟩⟩
  · rw [List.nodup_append]
    refine ⟨ho.nodup, by simp, fun a ha b hb => ?_⟩
    rw [List.mem_singleton] at hb
    rintro rfl
    subst hb
    exact hjn ha
  · rw [List.mem_append, List.mem_singleton, ho.mem]
    constructor
    · rintro (⟨i, hi, rfl, h3, h0⟩ | rfl)
      · have e : i ≠ j := fun e => by subst e; omega
        exact ⟨i, hi, rfl, (old i e).1 ⟨h3, h0⟩⟩
      · exact ⟨j, hj, rfl, hz.2, by rw [upd_same]; exact hz.1⟩
    · rintro ⟨i, hi, rfl, h3, h0⟩
      by_cases e : i = j
      · subst e; exact .inr rfl
      · exact .inl ⟨i, hi, rfl, (old i e).2 ⟨h3, h0⟩⟩
  · rw [ho.mem]
    constructor
    · rintro ⟨i, hi, rfl, h3, h0⟩
      have e : i ≠ j := fun e => by subst e; omega
      exact ⟨i, hi, rfl, (old i e).1 ⟨h3, h0⟩⟩
    · rintro ⟨i, hi, rfl, h3, h0⟩
      have e : i ≠ j := fun e => by subst e; rw [upd_same] at h0; exact hz ⟨h0, h3⟩
      exact ⟨i, hi, rfl, (old i e).2 ⟨h3, h0⟩⟩

/-- the end of a round -/
theorem round_end {n : Nat} {l : List (Int × Int)} (hv : Vld n l) {L0 R0 L R op : Nat → Int} {q nx : List Int} {r : Int} (hq : QueI n l L0 q) (hc : CurI l (midL n l L0) (midR n l L0 r R0) r q L R) (ho : OpI n l L op nx [])
    (hd : ∀ x ∈ q, ∀ j : Nat, (x, (j : Int)) ∈ l → L j ≠ 3) : L = nxL n l L0 ∧ R = nxR n l L0 r R0 ∧ (∀ j, j < n → op j = cntO l L j) ∧ QueI n l L nx := by
  have key : ∀ i, L i = nxL n l L0 i ∧ R i = nxR n l L0 r R0 i := fun i => by
    rcases hc i with ⟨h1, h2⟩ | ⟨h1, h2, h3, x, hx, hxi⟩
    · cases hf : frB n l L0 i
      · cases hh : gHitB n l L0 i
        · simp [nxL, nxR, midL, midR, hf, hh] at h1 h2 ⊢; exact ⟨h1, h2⟩
        · exfalso
          obtain ⟨h3, _, a, ha, hfa⟩ := (gHitB_iff hv.1).1 hh
          have h4 := hd (a : Int) ((hq _).2 ⟨a, rfl, hfa⟩) i ha
          rw [h1] at h4
          simp [midL, hf] at h4
          exact h4 h3
      · simp [nxL, nxR, midL, midR, hf] at h1 h2 ⊢; exact ⟨h1, h2⟩
    · obtain ⟨a, rfl, _, hfa⟩ := hq.nat hx
      have hnf := not_free_of_free hv.1 hfa hxi
      have hL3 : L0 i = 3 := by simpa [midL, hnf] using h1
      have hh : gHitB n l L0 i = true := (gHitB_iff hv.1).2 ⟨hL3, hnf, a, hxi, hfa⟩
      simp [nxL, nxR, hnf, hh, h2, h3]
  have e1 : L = nxL n l L0 := funext fun i => (key i).1
  refine ⟨e1, funext fun i => (key i).2, fun j hj => by rw [ho.cnt j hj]; simp, fun x => ?_⟩
  rw [ho.mem]
  constructor
  · rintro ⟨j, hj, rfl, h3, h0⟩
    have h1 := ho.cnt j hj
    rw [h0] at h1
    simp at h1
    exact ⟨j, rfl, (frB_iff hv.1).2 ⟨hj, h3, (cnt_zero hv.1).1 (by omega)⟩⟩
  · rintro ⟨j, rfl, hf⟩
    obtain ⟨h1, h2, h3⟩ := (frB_iff hv.1).1 hf
    exact ⟨j, h1, rfl, h2, by rw [ho.cnt j h1, (cnt_zero hv.1).2 h3]; simp⟩

/-- the start -/
theorem que_start {n : Nat} {l : List (Int × Int)} (hv : InR n l) {op : Nat → Int} (hc : ∀ j, j < n → op j = (attackersL l j).length) :
    (∀ j, j < n → op j = cntO l (stL n l 0) j) ∧ QueI n l (stL n l 0) (nodesB n fun i => op i == 0) := by
  have h1 : ∀ j, cntO l (stL n l 0) j = (attackersL l j).length := fun j => by
    unfold cntO
    rw [List.filter_eq_self.2 (fun a _ => by simp [stL])]
  have h2 : ∀ j, j < n → op j = cntO l (stL n l 0) j := fun j hj => by rw [hc j hj, h1]
  refine ⟨h2, fun x => ?_⟩
  rw [mem_nodesB]
  constructor
  · rintro ⟨j, hj, h0, rfl⟩
    refine ⟨j, rfl, (frB_iff hv).2 ⟨hj, rfl, (cnt_zero hv).1 ?_⟩⟩
    have := h2 j hj
    simp at h0
    omega
  · rintro ⟨j, rfl, hf⟩
    obtain ⟨h3, _, h4⟩ := (frB_iff hv).1 hf
    refine ⟨j, h3, ?_, rfl⟩
    have := h2 j h3
    rw [(cnt_zero hv).2 h4] at this
    simp [this]
theorem que_nil {n : Nat} {l : List (Int × Int)} {L : Nat → Int} (h : QueI n l L []) : restB n l L := fun i _ => by
  cases hb : frB n l L i
  · rfl
  · have := (h i).2 ⟨i, rfl, hb⟩
    cases this
theorem que_some {n : Nat} {l : List (Int × Int)} {L : Nat → Int} {q : List Int} (h : QueI n l L q) (hq : 0 < q.length) : ¬ restB n l L := fun hr => by
  obtain ⟨x, hx⟩ := List.exists_mem_of_length_pos hq
  obtain ⟨j, _, hj, hf⟩ := h.nat hx
  rw [hr j hj] at hf; cases hf
/-- the first loop of a round -/
def setQ (q : List Int) (x : Int) (L : Nat → Int) : Nat → Int := fun i => if inB q i then x else L i
theorem setQ_step {q : List Int} {x : Int} {L : Nat → Int} {k j : Nat} (h : k < q.length) (hj : q[k] = (j : Int)) : setQ (q.take (k + 1)) x L = upd (setQ (q.take k) x L) j x := by
  funext i
  unfold setQ upd
  rw [List.take_succ_eq_append_getElem h, hj]
  have e : inB (q.take k ++ [(j : Int)]) i = (inB (q.take k) i || decide (i = j)) := by
    rw [Bool.eq_iff_iff]
    simp only [inB_iff, List.mem_append, List.mem_singleton, Bool.or_eq_true, decide_eq_true_eq]
    constructor
    · rintro (h | h)
      · exact .inl h
      · exact .inr (by omega)
    · rintro (h | h)
      · exact .inl h
      · exact .inr (by omega)
  rw [e]
  by_cases h1 : i = j
  · simp [h1]
  · simp [h1]
theorem setQ_all {n : Nat} {l : List (Int × Int)} {L0 : Nat → Int} {q : List Int} (h : QueI n l L0 q) (x : Int) (L : Nat → Int) : setQ q x L = fun i => if frB n l L0 i then x else L i := by
  funext i
  unfold setQ
  have e : inB q i = frB n l L0 i := by
    rw [Bool.eq_iff_iff, inB_iff, h]
    constructor
    · rintro ⟨j, e, hf⟩
      have : i = j := by omega
      subst this; exact hf
    · intro hf; exact ⟨i, rfl, hf⟩
  rw [e]
end Go.Proofs.YtncimnfhfomddaaDoor

/- grounded: build, Label, Ranks. -/
namespace Go.Proofs.YtncimnfhfomddaaDoor
open Go.ChangeShapes Go.WideShapes Go.ChangeAt Go.RowKit

theorem OwnI.farB {w : World} {B : Nat} {v : Value} {l : List Int} (h : OwnI w B v l) {a : Addr} (ha : a.block < B) (u : Value) : OwnI (w.setCell a u) B v l :=
  OwnI.far h (fun e => by have := (World.ownsRow.lt h _ e).1; omega) u

section
variable {w : World} {n : Nat} {A : Option Addr} {len c g1 g2 g3 B : Nat} {L R op : Nat → Int} {wr w' : World}
end

theorem Eff.call {P : Program} {o : Oper} {a : Act} {w : World} {f : FuncId} {args : Array Value} {Post : Value → World → Prop} (hrun : (execOp a.eval o).run P w = .ok (.enter f args) w) (h : Calls P f args w fun e w' => ∃ v, e = .returned v ∧ Post v w') : Eff P o a w Post := by
  unfold Eff Oper.wp
  rw [hrun]
  refine h.mono ?_
  rintro e w' ⟨v, rfl, hp⟩
  exact ⟨v, rfl, hp⟩
theorem setQ_nil (x : Int) (L : Nat → Int) : setQ [] x L = L := by funext i; simp [setQ, inB]
theorem ivl {k : IntKind} {a b : Int} (h : a = b) : Value.int k a = Value.int k b := by rw [h]
theorem cntO_le (l : List (Int × Int)) (L : Nat → Int) (j : Nat) : cntO l L j ≤ l.length := by
  unfold cntO
  exact Nat.le_trans (List.length_filter_le _ _) (attackersL_len l j)
theorem nodup_len : ∀ (n : Nat) (l : List Int), l.Nodup → (∀ x ∈ l, ∃ j : Nat, j < n ∧ x = j) → l.length ≤ n
  | 0, l, _, h => by
    cases l with
    | nil => simp
    | cons x r => obtain ⟨j, hj, _⟩ := h x (List.mem_cons_self ..); omega
  | n + 1, l, hn, h => by
    have h1 := filter_drop_one (p := fun _ => true) (k := (n : Int)) rfl hn
    rw [List.filter_eq_self.2 (fun _ _ => rfl)] at h1
    have h2 := nodup_len n (l.filter fun x => true && x != (n : Int)) (hn.filter _) (fun x hx => by
      obtain ⟨hx1, hx2⟩ := List.mem_filter.1 hx
      obtain ⟨j, hj, rfl⟩ := h x hx1
      simp at hx2
      exact ⟨j, by omega, rfl⟩)
    split at h1 <;> omega
theorem OpI.len {n : Nat} {l : List (Int × Int)} {L op : Nat → Int} {nx ks : List Int} (h : OpI n l L op nx ks) : nx.length ≤ n :=
  nodup_len n nx h.nodup fun x hx => by obtain ⟨j, hj, e, _⟩ := (h.mem x).1 hx; exact ⟨j, hj, e⟩
theorem OpI.bnd {n : Nat} {l : List (Int × Int)} {L op : Nat → Int} {nx ks : List Int} (h : OpI n l L op nx ks) (hl : l.length ≤ 100000) {j : Nat} (hj : j < n) : 0 ≤ op j ∧ op j ≤ 100001 := by
  have h1 := h.cnt j hj
  have h2 := cntO_le l L j
  split at h1 <;> omega
/-- the call returns two new slices of n numbers -/
def RetFF (n : Nat) (f f' : Nat → Int) (w : World) : Ending → World → Prop := fun e w' => ∃ g g', e = .returned (.tuple #[.slice (some ⟨g, 0, none⟩) n n, .slice (some ⟨g', 0, none⟩) n n]) ∧ w.heap.size ≤ g ∧ w.heap.size ≤ g' ∧ Row w' g n f ∧ Row w' g' n f' ∧ Below w.heap.size w w'

end Go.Proofs.YtncimnfhfomddaaDoor

/- The reference of layer 12: build, Label, Ranks. -/
namespace Go.Proofs.YtncimnfhfomddaaDoor
open Go.ChangeShapes Go.WideShapes Go.ChangeAt Go.RowKit

/-- a slice of the call's own that holds f at 0 .. n-1 -/
def OwnF (w : World) (b : Nat) (A : Option Addr) (c n : Nat) (f : Nat → Int) : Prop := OwnI w b (.slice A n c) (lst n f)
section
variable {w w' : World} {b : Nat} {A : Option Addr} {c n : Nat} {f : Nat → Int}
theorem OwnF.own (h : OwnF w b A c n f) : OwnI w b (.slice A (lst n f).length c) (lst n f) := by rw [lst_length]; exact h
theorem OwnF.of {l : List Int} (h : OwnI w b (.slice A n c) l) (e : l = lst n f) : OwnF w b A c n f := by subst e; exact h
theorem OwnF.pos (h : OwnF w b A c n f) (hn : 0 < n) : ∃ g, A = some ⟨g, 0, none⟩ ∧ b ≤ g ∧ g < w.heap.size ∧ ∀ i, w.frozen? ⟨g, i, none⟩ = false := h.own.pos (by rw [lst_length]; exact hn)
theorem OwnF.ri (h : OwnF w b A c n f) : RI w A (lst n f) := h.own.ri
theorem OwnF.below (h : OwnF w b A c n f) (hb : Below w.heap.size w w') : OwnF w' b A c n f := OwnI.below h hb
theorem OwnF.congr {f' : Nat → Int} (h : OwnF w b A c n f) (e : ∀ i, i < n → f i = f' i) : OwnF w b A c n f' := by unfold OwnF; rw [← lst_congr e]; exact h
theorem OwnF.far (h : OwnF w b A c n f) {a : Addr} (ha : (Value.slice A n c).ownBlock ≠ some a.block) (u : Value) : OwnF (w.setCell a u) b A c n f := OwnI.far h ha u
theorem OwnF.nil (h : OwnF w b A c n f) : A = none → lst n f = [] ∧ c = 0 := fun e => by
  obtain ⟨A', c', e', _, hn⟩ := OwnI.form2 h
  injection e' with e1 _ e3
  subst e1 e3
  exact hn e
end
theorem OwnF.cell {w : World} {b g c n : Nat} {f : Nat → Int} (h : OwnF w b (some ⟨g, 0, none⟩) c n f) {k : Nat} (hk : k < n) : w.cell? ⟨g, k, none⟩ = some (.int .i64 (f k)) := by
  have := h.own.cellAt (k := k) (by rw [lst_length]; exact hk)
  rw [lst_getD hk] at this; exact this
theorem OwnF.store {w : World} {b g c n : Nat} {f : Nat → Int} (h : OwnF w b (some ⟨g, 0, none⟩) c n f) {k : Nat} (hk : k < n) (x : Int) : OwnF (w.setCell ⟨g, k, none⟩ (.int .i64 x)) b (some ⟨g, 0, none⟩) c n (upd f k x) := by
  have := h.own.store (k := k) (by rw [lst_length]; exact hk) x
  rw [lst_set, lst_length] at this; exact this

/-- what the reference's build holds while it goes on -/
structure GC (w : World) (n : Nat) (A : Option Addr) (len c : Nat) (A1 : Option Addr) (c1 : Nat) (A2 : Option Addr) (c2 : Nat) (L R : Nat → Int) (wr : World) : Prop where
  box : Blk wr w.heap.size 24 #[.int .i64 (n : Int), .slice A len c]
  lab : OwnF wr (w.heap.size + 1) A1 c1 n L
  rnk : OwnF wr (w.heap.size + 1) A2 c2 n R
  apt : Far (.slice A1 n c1) (.slice A2 n c2)
  bel : Below w.heap.size w wr
section
variable {w : World} {n : Nat} {A : Option Addr} {len c : Nat} {A1 : Option Addr} {c1 : Nat} {A2 : Option Addr} {c2 : Nat} {L R : Nat → Int} {wr w' : World}
theorem GC.below (h : GC w n A len c A1 c1 A2 c2 L R wr) (hb : Below wr.heap.size wr w') : GC w n A len c A1 c1 A2 c2 L R w' :=
  { h with box := h.box.below hb h.box.lt, lab := h.lab.below hb, rnk := h.rnk.below hb, bel := h.bel.trans (hb.mono h.bel.size) }
theorem GC.setL {g1 : Nat} (h : GC w n A len c (some ⟨g1, 0, none⟩) c1 A2 c2 L R wr) {i : Nat} (hi : i < n) (x : Int) : GC w n A len c (some ⟨g1, 0, none⟩) c1 A2 c2 (upd L i x) R (wr.setCell ⟨g1, i, none⟩ (.int .i64 x)) := by
  have hg := OwnI.block h.lab g1 rfl
  exact { h with box := h.box.far (p := ⟨g1, i, none⟩) (by show w.heap.size ≠ g1; omega) _, lab := h.lab.store hi x, rnk := h.rnk.far (a := ⟨g1, i, none⟩) (fun e => h.apt g1 rfl e) _, bel := h.bel.setCell (p := ⟨g1, i, none⟩) (by show w.heap.size ≤ g1; omega) _ }
theorem GC.setR {g2 : Nat} (h : GC w n A len c A1 c1 (some ⟨g2, 0, none⟩) c2 L R wr) {i : Nat} (hi : i < n) (x : Int) : GC w n A len c A1 c1 (some ⟨g2, 0, none⟩) c2 L (upd R i x) (wr.setCell ⟨g2, i, none⟩ (.int .i64 x)) := by
  have hg := OwnI.block h.rnk g2 rfl
  exact { h with box := h.box.far (p := ⟨g2, i, none⟩) (by show w.heap.size ≠ g2; omega) _, rnk := h.rnk.store hi x, lab := h.lab.far (a := ⟨g2, i, none⟩) (fun e => h.apt g2 e rfl) _, bel := h.bel.setCell (p := ⟨g2, i, none⟩) (by show w.heap.size ≤ g2; omega) _ }
theorem GC.congr {L' R' : Nat → Int} (h : GC w n A len c A1 c1 A2 c2 L R wr) (e : ∀ i, i < n → L i = L' i) (e' : ∀ i, i < n → R i = R' i) : GC w n A len c A1 c1 A2 c2 L' R' wr :=
  { h with lab := h.lab.congr e, rnk := h.rnk.congr e' }
end

/-- the end of a round -/
theorem round_endL {n : Nat} {l : List (Int × Int)} (hv : Vld n l) {L0 R0 L R : Nat → Int} {q : List Int} {r : Int} (hq : QueI n l L0 q) (hc : CurI l (midL n l L0) (midR n l L0 r R0) r q L R)
    (hd : ∀ x ∈ q, ∀ j : Nat, (x, (j : Int)) ∈ l → L j ≠ 3) : L = nxL n l L0 ∧ R = nxR n l L0 r R0 := by
  have key : ∀ i, L i = nxL n l L0 i ∧ R i = nxR n l L0 r R0 i := fun i => by
    rcases hc i with ⟨h1, h2⟩ | ⟨h1, h2, h3, x, hx, hxi⟩
    · cases hf : frB n l L0 i
      · cases hh : gHitB n l L0 i
        · simp [nxL, nxR, midL, midR, hf, hh] at h1 h2 ⊢; exact ⟨h1, h2⟩
        · exfalso
          obtain ⟨h3, _, a, ha, hfa⟩ := (gHitB_iff hv.1).1 hh
          have h4 := hd (a : Int) ((hq _).2 ⟨a, rfl, hfa⟩) i ha
          rw [h1] at h4
          simp [midL, hf] at h4
          exact h4 h3
      · simp [nxL, nxR, midL, midR, hf] at h1 h2 ⊢; exact ⟨h1, h2⟩
    · obtain ⟨a, rfl, _, hfa⟩ := hq.nat hx
      have hnf := not_free_of_free hv.1 hfa hxi
      have hL3 : L0 i = 3 := by simpa [midL, hnf] using h1
      have hh : gHitB n l L0 i = true := (gHitB_iff hv.1).2 ⟨hL3, hnf, a, hxi, hfa⟩
      simp [nxL, nxR, hnf, hh, h2, h3]
  exact ⟨funext fun i => (key i).1, funext fun i => (key i).2⟩
/-- the nodes that become In, as a list -/
def queL (n : Nat) (l : List (Int × Int)) (L : Nat → Int) : List Int := nodesB n (frB n l L)
theorem queL_que (n : Nat) (l : List (Int × Int)) (L : Nat → Int) : QueI n l L (queL n l L) := fun x => by
  unfold queL
  rw [mem_nodesB]
  constructor
  · rintro ⟨j, _, hj, rfl⟩; exact ⟨j, rfl, hj⟩
  · rintro ⟨j, rfl, hj⟩
    refine ⟨j, ?_, hj, rfl⟩
    unfold frB at hj
    simp only [Bool.and_eq_true, decide_eq_true_eq] at hj
    exact hj.1.1
/-- what the test of the second loop asks -/
theorem cur_test {n : Nat} {l : List (Int × Int)} {L0 R0 L R : Nat → Int} {r : Int} (hR0 : ∀ i, R0 i < r) (hc : CurI l (midL n l L0) (midR n l L0 r R0) r (queL n l L0) L R) (k : Nat) :
    (L k = 1 ∧ R k = r) ↔ (k : Int) ∈ queL n l L0 := by
  have hq := queL_que n l L0
  constructor
  · rintro ⟨h1, h2⟩
    rcases hc k with ⟨e1, e2⟩ | ⟨_, e1, _⟩
    · cases hf : frB n l L0 k
      · have := hR0 k
        simp [midR, hf] at e2
        omega
      · exact (hq _).2 ⟨k, rfl, hf⟩
    · omega
  · intro h
    obtain ⟨j, e, _, hf⟩ := hq.nat h
    have : k = j := by omega
    subst this
    have m1 : midL n l L0 k = 1 := by simp [midL, hf]
    have m2 : midR n l L0 r R0 k = r := by simp [midR, hf]
    rcases hc k with ⟨e1, e2⟩ | ⟨e1, _⟩
    · exact ⟨by omega, by omega⟩
    · omega
theorem cur_set {l : List (Int × Int)} {M MR L R : Nat → Int} {r : Int} {q : List Int} (hc : CurI l M MR r q L R) {x : Int} (hx : x ∈ q) {j : Nat} (hxj : (x, (j : Int)) ∈ l) (h3 : L j = 3) : CurI l M MR r q (upd L j 2) (upd R j r) := fun i => by
  by_cases e : i = j
  · subst e
    refine .inr ⟨?_, upd_same _ _ _, upd_same _ _ _, x, hx, hxj⟩
    rcases hc i with ⟨h, _⟩ | ⟨h, _⟩ <;> omega
  · rw [upd_ne e, upd_ne e]; exact hc i

/-- some node below j becomes In -/
def chB (n : Nat) (l : List (Int × Int)) (L : Nat → Int) (j : Nat) : Bool := (List.range j).any (frB n l L)
theorem chB_succ (n : Nat) (l : List (Int × Int)) (L : Nat → Int) (j : Nat) : chB n l L (j + 1) = (chB n l L j || frB n l L j) := by
  unfold chB
  rw [List.range_succ, List.any_append]; simp
theorem chB_rest {n : Nat} {l : List (Int × Int)} {L : Nat → Int} (h : chB n l L n = false) : restB n l L := fun i hi => by
  unfold chB at h
  rw [List.any_eq_false] at h
  have := h i (List.mem_range.2 hi)
  simpa using this
theorem chB_some {n : Nat} {l : List (Int × Int)} {L : Nat → Int} (h : chB n l L n = true) : ¬ restB n l L := fun hr => by
  unfold chB at h
  rw [List.any_eq_true] at h
  obtain ⟨i, hi, hf⟩ := h
  rw [hr i (List.mem_range.1 hi)] at hf; cases hf
/-- the first loop of a round, the first j nodes done -/
def preL (n : Nat) (l : List (Int × Int)) (L : Nat → Int) (x : Int) (F : Nat → Int) (j : Nat) : Nat → Int := fun i => if i < j ∧ frB n l L i = true then x else F i
theorem preL_hit {n : Nat} {l : List (Int × Int)} {L : Nat → Int} {x : Int} {F : Nat → Int} {j : Nat} (h : frB n l L j = true) : preL n l L x F (j + 1) = upd (preL n l L x F j) j x := by
  funext i
  unfold preL upd
  by_cases e : i = j
  · subst e; simp [h]
  · rw [if_neg e]
    have : (i < j + 1 ∧ frB n l L i = true) ↔ (i < j ∧ frB n l L i = true) := ⟨fun h => ⟨by omega, h.2⟩, fun h => ⟨by omega, h.2⟩⟩
    simp only [this]
theorem preL_miss {n : Nat} {l : List (Int × Int)} {L : Nat → Int} {x : Int} {F : Nat → Int} {j : Nat} (h : frB n l L j = false) : preL n l L x F (j + 1) = preL n l L x F j := by
  funext i
  unfold preL
  have : (i < j + 1 ∧ frB n l L i = true) ↔ (i < j ∧ frB n l L i = true) := ⟨fun h' => ⟨by
    rcases Nat.lt_or_ge i j with hlt | hge
    · exact hlt
    · have : i = j := by omega
      subst this; rw [h] at h'; exact absurd h'.2 (by simp), h'.2⟩, fun h => ⟨by omega, h.2⟩⟩
  simp only [this]
/-- node i is free as far as the first attackers go -/
def frS (l : List (Int × Int)) (L : Nat → Int) (i s : Nat) : Bool := (L i == 3) && ((attackersL l i).take s).all fun a => L a.toNat == 2
theorem frS_zero (l : List (Int × Int)) (L : Nat → Int) (i : Nat) : frS l L i 0 = (L i == 3) := by simp [frS]
theorem frS_succ {l : List (Int × Int)} {L : Nat → Int} {i s : Nat} (h : s < (attackersL l i).length) {a : Nat} (ha : (attackersL l i)[s] = (a : Int)) : frS l L i (s + 1) = (frS l L i s && (L a == 2)) := by
  unfold frS
  rw [List.take_succ_eq_append_getElem h, List.all_append, ha, ← Bool.and_assoc]
  simp
theorem frS_all {n : Nat} {l : List (Int × Int)} {L : Nat → Int} {i s : Nat} (hi : i < n) (h : ¬ s < (attackersL l i).length) : frS l L i s = frB n l L i := by
  unfold frS frB
  rw [List.take_of_length_le (by omega)]
  simp [hi]

theorem preL_full (n : Nat) (l : List (Int × Int)) (L : Nat → Int) (x : Int) (F : Nat → Int) : preL n l L x F n = fun i => if frB n l L i then x else F i := by
  funext i
  unfold preL
  have : (i < n ∧ frB n l L i = true) ↔ frB n l L i = true := ⟨fun h => h.2, fun h => ⟨by
    have := h; unfold frB at this; simp only [Bool.and_eq_true, decide_eq_true_eq] at this; exact this.1.1, h⟩⟩
  simp only [this]

/-- the call returns two new slices that hold n numbers -/
def RetLL (n : Nat) (f f' : Nat → Int) (w : World) : Ending → World → Prop := fun e w' => ∃ A c A' c', e = .returned (.tuple #[.slice A n c, .slice A' n c']) ∧ OwnF w' w.heap.size A c n f ∧ OwnF w' w.heap.size A' c' n f' ∧ Below w.heap.size w w'

end Go.Proofs.YtncimnfhfomddaaDoor

/- Label and Ranks, of the program and of the reference; the sanity check of layer 12. -/
namespace Go.Proofs.YtncimnfhfomddaaDoor
open Go.ChangeShapes Go.WideShapes Go.ChangeAt Go.RowKit

theorem RetI.lst {w w' : World} {n : Nat} {f : Nat → Int} {A : Option Addr} {c : Nat} (h : OwnI w' w.heap.size (.slice A n c) (lst n f)) (hb : Below w.heap.size w w') : RetI (lst n f) w (.returned (.slice A n c)) w' := RetI.mk h hb

theorem chain_vld : Vld 3 chainG := ⟨chain_in, by decide⟩
theorem gr_chain : lst 3 (grL 3 chainG) = [1, 2, 1] := by decide
theorem rk_chain : lst 3 (grR 3 chainG) = [1, 1, 2] := by decide

theorem new_ri3 (w : World) (t : TypeId) (a b c : Int) : RI (w.alloc (.cells #[.int .i64 a, .int .i64 b, .int .i64 c] t)) (some ⟨w.heap.size, 0, none⟩) [a, b, c] := by
  intro k hk
  refine ⟨w.heap.size, 0, rfl, ?_⟩
  rw [(Blk.new w t #[.int .i64 a, .int .i64 b, .int .i64 c]).cell]
  match k, hk with
  | 0, _ => rfl
  | 1, _ => rfl
  | 2, _ => rfl

theorem boxed42 (w : World) (t u : TypeId) (x1 x2 x3 x4 y1 y2 : Value) : ∃ W0, (w.alloc (.cells #[x1, x2, x3, x4] t)).alloc (.cells #[y1, y2] u) = W0 ∧ Blk W0 w.heap.size t #[x1, x2, x3, x4] ∧ Blk W0 (w.heap.size + 1) u #[y1, y2] ∧ Below w.heap.size w W0 := by
  refine ⟨_, rfl, (Blk.new w t _).alloc _, ?_, ((Below.refl _ _).alloc (Nat.le_refl _) _).alloc (by simp) _⟩
  have := Blk.new (w.alloc (.cells #[x1, x2, x3, x4] t)) u #[y1, y2]
  simpa using this

end Go.Proofs.YtncimnfhfomddaaDoor
