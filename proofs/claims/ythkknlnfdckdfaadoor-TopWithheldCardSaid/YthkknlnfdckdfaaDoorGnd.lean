import Derived.Test.YthkknlnfdckdfaaDoorP12
import Derived.Test.YthkknlnfdckdfaaDoorGr
import Derived.Test.YthkknlnfdckdfaaDoorRef13
import Derived.Test.YthkknlnfdckdfaaDoorGenM
import Derived.Deep.DeepCutAuto
/- What the program's rounds do, in plain words: a queue, counts of attackers that are not Out. No program in sight. -/
namespace Go.Proofs.YthkknlnfdckdfaaDoor
open Go.ChangeShapes Go.WideShapes Go.ChangeAt Go.RowKit

theorem filter_drop_one {p : Int → Bool} {k : Int} (hk : p k = true) : ∀ {l : List Int}, l.Nodup → (l.filter p).length = (l.filter fun x => p x && x != k).length + if k ∈ l then 1 else 0
  | [], _ => by simp
  | y :: l, hn => by
    obtain ⟨h1, h2⟩ := List.nodup_cons.1 hn
    have ih := filter_drop_one hk h2
    by_cases e : y = k
    · subst e
      rw [if_neg h1] at ih
      simp [hk, ih]
    · have e' : ¬ k = y := fun h => e h.symm
      simp only [List.filter_cons, List.mem_cons]
      by_cases hp : p y = true
      · rw [if_pos hp, if_pos (by simp [hp, e])]
        simp only [List.length_cons, ih, e', false_or]
        omega
      · rw [if_neg hp, if_neg (by simp [hp])]
        simp only [ih, e', false_or]

/-- the attackers that are not Out -/
def cntO (l : List (Int × Int)) (L : Nat → Int) (j : Nat) : Nat := ((attackersL l j).filter fun a => L a.toNat != 2).length
theorem cnt_zero {n : Nat} {l : List (Int × Int)} (hv : InR n l) {L : Nat → Int} {j : Nat} : cntO l L j = 0 ↔ ∀ a, att l a j → L a = 2 := by
  unfold cntO
  rw [List.length_eq_zero_iff, List.filter_eq_nil_iff]
  constructor
  · intro h a ha
    have := h a (mem_attackersL.2 ha)
    simpa using this
  · intro h x hx
    obtain ⟨a, rfl, _, ha⟩ := attacker_nat hv hx
    simpa using h a ha
theorem sorted_nodup {l : List Int} (h : l.Pairwise (· < ·)) : l.Nodup := h.imp fun hab => by omega
theorem cnt_upd {n : Nat} {l : List (Int × Int)} (hv : Vld n l) {L : Nat → Int} {k : Nat} (hk : L k ≠ 2) (j : Nat) :
    cntO l L j = cntO l (upd L k 2) j + if (j : Int) ∈ attackedL l k then 1 else 0 := by
  unfold cntO
  have h1 : (attackersL l j).filter (fun a => upd L k 2 a.toNat != 2) = (attackersL l j).filter fun a => (L a.toNat != 2) && a != (k : Int) := by
    apply List.filter_congr
    intro x hx
    obtain ⟨a, rfl, _, _⟩ := attacker_nat hv.1 hx
    unfold upd
    by_cases e : a = k
    · subst e; simp
    · simp [e]; intro _; omega
  rw [h1, filter_drop_one (p := fun a => L a.toNat != 2) (k := (k : Int)) (by simpa using hk) (sorted_nodup (attackersL_sorted hv.2 j))]
  congr 1
  simp only [mem_attackersL, mem_attackedL]
theorem cnt_congr {n : Nat} {l : List (Int × Int)} (hv : InR n l) {L M : Nat → Int} (h : ∀ a, a < n → (L a = 2 ↔ M a = 2)) (j : Nat) : cntO l L j = cntO l M j := by
  unfold cntO
  congr 1
  apply List.filter_congr
  intro x hx
  obtain ⟨a, rfl, ha, _⟩ := attacker_nat hv hx
  rw [Bool.eq_iff_iff]
  have := h a ha
  simp [this]

/-- the labels and ranks while a round goes on: M, MR with the nodes of q In already; some that they attack are Out -/
def CurI (l : List (Int × Int)) (M MR : Nat → Int) (r : Int) (q : List Int) (L R : Nat → Int) : Prop :=
  ∀ i, (L i = M i ∧ R i = MR i) ∨ (M i = 3 ∧ L i = 2 ∧ R i = r ∧ ∃ x ∈ q, (x, (i : Int)) ∈ l)
/-- the counts and the nodes that become In next -/
structure OpI (n : Nat) (l : List (Int × Int)) (L op : Nat → Int) (nx : List Int) (ks : List Int) : Prop where
  cnt : ∀ j, j < n → op j = cntO l L j + if (j : Int) ∈ ks then 1 else 0
  nodup : nx.Nodup
  mem : ∀ x, x ∈ nx ↔ ∃ j : Nat, j < n ∧ x = j ∧ L j = 3 ∧ op j = 0
/-- the labels once the queue's nodes are In -/
def midL (n : Nat) (l : List (Int × Int)) (L : Nat → Int) : Nat → Int := fun i => if frB n l L i then 1 else L i
def midR (n : Nat) (l : List (Int × Int)) (L : Nat → Int) (r : Int) (R : Nat → Int) : Nat → Int := fun i => if frB n l L i then r else R i
/-- the queue holds the nodes that become In -/
def QueI (n : Nat) (l : List (Int × Int)) (L : Nat → Int) (q : List Int) : Prop := ∀ x, x ∈ q ↔ ∃ j : Nat, x = j ∧ frB n l L j = true

theorem QueI.nat {n : Nat} {l : List (Int × Int)} {L : Nat → Int} {q : List Int} (h : QueI n l L q) {x : Int} (hx : x ∈ q) : ∃ j : Nat, x = j ∧ j < n ∧ frB n l L j = true := by
  obtain ⟨j, rfl, hj⟩ := (h x).1 hx
  refine ⟨j, rfl, ?_, hj⟩
  unfold frB at hj
  simp only [Bool.and_eq_true, decide_eq_true_eq] at hj
  exact hj.1.1

/-- behind the first loop of a round -/
theorem mid_start {n : Nat} {l : List (Int × Int)} (hv : Vld n l) {L R op : Nat → Int} {q : List Int} {r : Int} (hc : ∀ j, j < n → op j = cntO l L j) :
    CurI l (midL n l L) (midR n l L r R) r q (midL n l L) (midR n l L r R) ∧ OpI n l (midL n l L) op [] [] := by
  have hsame : ∀ j, cntO l (midL n l L) j = cntO l L j := fun j => by
    refine cnt_congr hv.1 (fun a _ => ?_) j
    unfold midL
    cases hf : frB n l L a
    · simp
    · have := ((frB_iff hv.1).1 hf).2.1
      simp [this]
  refine ⟨fun i => .inl ⟨rfl, rfl⟩, ⟨fun j hj => by rw [hc j hj, hsame]; simp, List.nodup_nil, fun x => ⟨(fun h => by cases h), ?_⟩⟩⟩
  rintro ⟨j, hj, rfl, h3, h0⟩
  exfalso
  have h0' : cntO l L j = 0 := by have := hc j hj; omega
  unfold midL at h3
  cases hf : frB n l L j
  · rw [hf] at h3
    simp at h3
    have : frB n l L j = true := (frB_iff hv.1).2 ⟨hj, h3, (cnt_zero hv.1).1 h0'⟩
    rw [hf] at this; cases this
  · rw [hf] at h3; simp at h3

/-- an undecided node that a node of the queue attacks becomes Out -/
theorem cur_out {n : Nat} {l : List (Int × Int)} (hv : Vld n l) {L0 M MR L R op : Nat → Int} {q nx : List Int} {r : Int} (hM : M = midL n l L0) (hq : QueI n l L0 q) (hc : CurI l M MR r q L R) (ho : OpI n l L op nx [])
    {i k : Nat} (hi : (i : Int) ∈ q) (hik : att l i k) (hk : L k = 3) : CurI l M MR r q (upd L k 2) (upd R k r) ∧ OpI n l (upd L k 2) op nx (attackedL l k) := by
  have hkn := (att_lt hv.1 hik).2
  have hM3 : M k = 3 := by
    rcases hc k with ⟨h, _⟩ | ⟨_, h, _⟩
    · omega
    · omega
  have hi1 : L i = 1 := by
    obtain ⟨j, hj, _, hfr⟩ := hq.nat hi
    have hj' : i = j := by omega
    subst hj'
    have h1 : M i = 1 := by rw [hM]; simp [midL, hfr]
    rcases hc i with ⟨h, _⟩ | ⟨h, _⟩
    · omega
    · omega
  refine ⟨fun j => ?_, ⟨fun j hj => ?_, ho.nodup, fun x => ?_⟩⟩
  · by_cases e : j = k
    · subst e
      exact .inr ⟨hM3, upd_same _ _ _, upd_same _ _ _, _, hi, hik⟩
    · rw [upd_ne e, upd_ne e]; exact hc j
  · have h1 := ho.cnt j hj
    have h2 := cnt_upd hv (L := L) (k := k) (by omega) j
    rw [if_neg (by simp)] at h1
    rw [h1, h2]
    split <;> simp
  · rw [ho.mem]
    constructor
    · rintro ⟨j, hj, rfl, h3, h0⟩
      refine ⟨j, hj, rfl, ?_, h0⟩
      rw [upd_ne]
      · exact h3
      · rintro rfl
        have h1 := ho.cnt j hj
        rw [if_neg (by simp), h0] at h1
        have h2 : cntO l L j = 0 := by omega
        have := (cnt_zero hv.1).1 h2 i hik
        omega
    · rintro ⟨j, hj, rfl, h3, h0⟩
      refine ⟨j, hj, rfl, ?_, h0⟩
      by_cases e : j = k
      · subst e; rw [upd_same] at h3; omega
      · rwa [upd_ne e] at h3

/-- one count is lowered -/
theorem op_step {n : Nat} {l : List (Int × Int)} {L op : Nat → Int} {nx ks : List Int} {j : Nat} (hj : j < n) (hn : ((j : Int) :: ks).Nodup) (ho : OpI n l L op nx ((j : Int) :: ks)) :
    (op j - 1 = 0 ∧ L j = 3 → OpI n l L (upd op j (op j - 1)) (nx ++ [(j : Int)]) ks) ∧ (¬ (op j - 1 = 0 ∧ L j = 3) → OpI n l L (upd op j (op j - 1)) nx ks) := by
  obtain ⟨hnot, _⟩ := List.nodup_cons.1 hn
  have hcj := ho.cnt j hj
  rw [if_pos (List.mem_cons_self ..)] at hcj
  have hcnt : ∀ i, i < n → upd op j (op j - 1) i = cntO l L i + if (i : Int) ∈ ks then 1 else 0 := fun i hi => by
    by_cases e : i = j
    · subst e; rw [upd_same, if_neg hnot]; omega
    · rw [upd_ne e, ho.cnt i hi]
      congr 1
      have : ((i : Int) ∈ (j : Int) :: ks) ↔ (i : Int) ∈ ks := by
        rw [List.mem_cons]
        exact ⟨fun h => h.elim (fun h => absurd (by omega) e) id, .inr⟩
      simp only [this]
  have hjn : (j : Int) ∉ nx := fun h => by
    obtain ⟨i, _, e, _, h0⟩ := (ho.mem _).1 h
    have : i = j := by omega
    subst this; omega
  have old : ∀ i, i ≠ j → ((L i = 3 ∧ op i = 0) ↔ (L i = 3 ∧ upd op j (op j - 1) i = 0)) := fun i hi => by rw [upd_ne hi]
  refine ⟨fun hz => ⟨hcnt, ?_, fun x => ?_⟩, fun hz => ⟨hcnt, ho.nodup, fun x => ?_⟩⟩
  · rw [List.nodup_append]
    refine ⟨ho.nodup, by simp, fun a ha b hb => ?_⟩
    rw [List.mem_singleton] at hb
    rintro rfl
    subst hb
    exact hjn ha
  · rw [List.mem_append, List.mem_singleton, ho.mem]
    constructor
    · rintro (⟨i, hi, rfl, h3, h0⟩ | rfl)
      · have e : i ≠ j := fun e => by subst e; omega
        exact ⟨i, hi, rfl, (old i e).1 ⟨h3, h0⟩⟩
      · exact ⟨j, hj, rfl, hz.2, by rw [upd_same]; exact hz.1⟩
    · rintro ⟨i, hi, rfl, h3, h0⟩
      by_cases e : i = j
      · subst e; exact .inr rfl
      · exact .inl ⟨i, hi, rfl, (old i e).2 ⟨h3, h0⟩⟩
  · rw [ho.mem]
    constructor
    · rintro ⟨i, hi, rfl, h3, h0⟩
      have e : i ≠ j := fun e => by subst e; omega
      exact ⟨i, hi, rfl, (old i e).1 ⟨h3, h0⟩⟩
    · rintro ⟨i, hi, rfl, h3, h0⟩
      have e : i ≠ j := fun e => by subst e; rw [upd_same] at h0; exact hz ⟨h0, h3⟩
      exact ⟨i, hi, rfl, (old i e).2 ⟨h3, h0⟩⟩

/-- the end of a round -/
theorem round_end {n : Nat} {l : List (Int × Int)} (hv : Vld n l) {L0 R0 L R op : Nat → Int} {q nx : List Int} {r : Int} (hq : QueI n l L0 q) (hc : CurI l (midL n l L0) (midR n l L0 r R0) r q L R) (ho : OpI n l L op nx [])
    (hd : ∀ x ∈ q, ∀ j : Nat, (x, (j : Int)) ∈ l → L j ≠ 3) : L = nxL n l L0 ∧ R = nxR n l L0 r R0 ∧ (∀ j, j < n → op j = cntO l L j) ∧ QueI n l L nx := by
  have key : ∀ i, L i = nxL n l L0 i ∧ R i = nxR n l L0 r R0 i := fun i => by
    rcases hc i with ⟨h1, h2⟩ | ⟨h1, h2, h3, x, hx, hxi⟩
    · cases hf : frB n l L0 i
      · cases hh : gHitB n l L0 i
        · simp [nxL, nxR, midL, midR, hf, hh] at h1 h2 ⊢; exact ⟨h1, h2⟩
        · exfalso
          obtain ⟨h3, _, a, ha, hfa⟩ := (gHitB_iff hv.1).1 hh
          have h4 := hd (a : Int) ((hq _).2 ⟨a, rfl, hfa⟩) i ha
          rw [h1] at h4
          simp [midL, hf] at h4
          exact h4 h3
      · simp [nxL, nxR, midL, midR, hf] at h1 h2 ⊢; exact ⟨h1, h2⟩
    · obtain ⟨a, rfl, _, hfa⟩ := hq.nat hx
      have hnf := not_free_of_free hv.1 hfa hxi
      have hL3 : L0 i = 3 := by simpa [midL, hnf] using h1
      have hh : gHitB n l L0 i = true := (gHitB_iff hv.1).2 ⟨hL3, hnf, a, hxi, hfa⟩
      simp [nxL, nxR, hnf, hh, h2, h3]
  have e1 : L = nxL n l L0 := funext fun i => (key i).1
  refine ⟨e1, funext fun i => (key i).2, fun j hj => by rw [ho.cnt j hj]; simp, fun x => ?_⟩
  rw [ho.mem]
  constructor
  · rintro ⟨j, hj, rfl, h3, h0⟩
    have h1 := ho.cnt j hj
    rw [h0] at h1
    simp at h1
    exact ⟨j, rfl, (frB_iff hv.1).2 ⟨hj, h3, (cnt_zero hv.1).1 (by omega)⟩⟩
  · rintro ⟨j, rfl, hf⟩
    obtain ⟨h1, h2, h3⟩ := (frB_iff hv.1).1 hf
    exact ⟨j, h1, rfl, h2, by rw [ho.cnt j h1, (cnt_zero hv.1).2 h3]; simp⟩

/-- the start -/
theorem que_start {n : Nat} {l : List (Int × Int)} (hv : InR n l) {op : Nat → Int} (hc : ∀ j, j < n → op j = (attackersL l j).length) :
    (∀ j, j < n → op j = cntO l (stL n l 0) j) ∧ QueI n l (stL n l 0) (nodesB n fun i => op i == 0) := by
  have h1 : ∀ j, cntO l (stL n l 0) j = (attackersL l j).length := fun j => by
    unfold cntO
    rw [List.filter_eq_self.2 (fun a _ => by simp [stL])]
  have h2 : ∀ j, j < n → op j = cntO l (stL n l 0) j := fun j hj => by rw [hc j hj, h1]
  refine ⟨h2, fun x => ?_⟩
  rw [mem_nodesB]
  constructor
  · rintro ⟨j, hj, h0, rfl⟩
    refine ⟨j, rfl, (frB_iff hv).2 ⟨hj, rfl, (cnt_zero hv).1 ?_⟩⟩
    have := h2 j hj
    simp at h0
    omega
  · rintro ⟨j, rfl, hf⟩
    obtain ⟨h3, _, h4⟩ := (frB_iff hv).1 hf
    refine ⟨j, h3, ?_, rfl⟩
    have := h2 j h3
    rw [(cnt_zero hv).2 h4] at this
    simp [this]
theorem que_nil {n : Nat} {l : List (Int × Int)} {L : Nat → Int} (h : QueI n l L []) : restB n l L := fun i _ => by
  cases hb : frB n l L i
  · rfl
  · have := (h i).2 ⟨i, rfl, hb⟩
    cases this
theorem que_some {n : Nat} {l : List (Int × Int)} {L : Nat → Int} {q : List Int} (h : QueI n l L q) (hq : 0 < q.length) : ¬ restB n l L := fun hr => by
  obtain ⟨x, hx⟩ := List.exists_mem_of_length_pos hq
  obtain ⟨j, _, hj, hf⟩ := h.nat hx
  rw [hr j hj] at hf; cases hf
/-- the first loop of a round -/
def setQ (q : List Int) (x : Int) (L : Nat → Int) : Nat → Int := fun i => if inB q i then x else L i
theorem setQ_step {q : List Int} {x : Int} {L : Nat → Int} {k j : Nat} (h : k < q.length) (hj : q[k] = (j : Int)) : setQ (q.take (k + 1)) x L = upd (setQ (q.take k) x L) j x := by
  funext i
  unfold setQ upd
  rw [List.take_succ_eq_append_getElem h, hj]
  have e : inB (q.take k ++ [(j : Int)]) i = (inB (q.take k) i || decide (i = j)) := by
    rw [Bool.eq_iff_iff]
    simp only [inB_iff, List.mem_append, List.mem_singleton, Bool.or_eq_true, decide_eq_true_eq]
    constructor
    · rintro (h | h)
      · exact .inl h
      · exact .inr (by omega)
    · rintro (h | h)
      · exact .inl h
      · exact .inr (by omega)
  rw [e]
  by_cases h1 : i = j
  · simp [h1]
  · simp [h1]
theorem setQ_all {n : Nat} {l : List (Int × Int)} {L0 : Nat → Int} {q : List Int} (h : QueI n l L0 q) (x : Int) (L : Nat → Int) : setQ q x L = fun i => if frB n l L0 i then x else L i := by
  funext i
  unfold setQ
  have e : inB q i = frB n l L0 i := by
    rw [Bool.eq_iff_iff, inB_iff, h]
    constructor
    · rintro ⟨j, e, hf⟩
      have : i = j := by omega
      subst this; exact hf
    · intro hf; exact ⟨i, rfl, hf⟩
  rw [e]
end Go.Proofs.YthkknlnfdckdfaaDoor

/- grounded: build, Label, Ranks. -/
namespace Go.Proofs.YthkknlnfdckdfaaDoor
open Go.ChangeShapes Go.WideShapes Go.ChangeAt Go.RowKit

theorem OwnI.farB {w : World} {B : Nat} {v : Value} {l : List Int} (h : OwnI w B v l) {a : Addr} (ha : a.block < B) (u : Value) : OwnI (w.setCell a u) B v l :=
  OwnI.far h (fun e => by have := (World.ownsRow.lt h _ e).1; omega) u

/-- what grounded's build holds while it goes on -/
structure GB (w : World) (n : Nat) (A : Option Addr) (len c g1 g2 g3 B : Nat) (L R op : Nat → Int) (wr : World) : Prop where
  box : Blk wr w.heap.size 27 #[.int .i64 (n : Int), .slice A len c]
  lab : Row wr g1 n L
  rnk : Row wr g2 n R
  opn : wr.rowIs g3 76 40 fun j => .int .i64 (op j)
  bel : Below w.heap.size w wr
  h1 : w.heap.size < g1
  h2 : w.heap.size < g2
  h3 : w.heap.size < g3
  n12 : g1 ≠ g2
  n13 : g1 ≠ g3
  n23 : g2 ≠ g3
  b1 : g1 < B
  b2 : g2 < B
  b3 : g3 < B
  hB : B ≤ wr.heap.size
section
variable {w : World} {n : Nat} {A : Option Addr} {len c g1 g2 g3 B : Nat} {L R op : Nat → Int} {wr w' : World}
theorem GB.below (h : GB w n A len c g1 g2 g3 B L R op wr) (hb : Below wr.heap.size wr w') : GB w n A len c g1 g2 g3 B L R op w' :=
  { h with box := h.box.below hb h.box.lt, lab := rowIs_new h.lab hb, rnk := rowIs_new h.rnk hb, opn := rowIs_new h.opn hb, bel := h.bel.trans (hb.mono h.bel.size), hB := Nat.le_trans h.hB hb.size }
theorem GB.append {e size k : Nat} {v : Value} {xs : List Value} (h : GB w n A len c g1 g2 g3 B L R op wr) (ho : wr.ownsRow B e size v k xs) (hg : wr.grownBy w' v.ownBlock) (hb : Below B wr w') : GB w n A len c g1 g2 g3 B L R op w' :=
  { h with box := h.box.append ho hg (Nat.lt_trans h.h1 h.b1), lab := rowIs_append h.lab ho hg h.b1, rnk := rowIs_append h.rnk ho hg h.b2, opn := rowIs_append h.opn ho hg h.b3, bel := h.bel.trans (hb.mono (Nat.le_of_lt (Nat.lt_trans h.h1 h.b1))), hB := Nat.le_trans h.hB hg.size }
theorem GB.setL (h : GB w n A len c g1 g2 g3 B L R op wr) (i : Nat) (x : Int) : GB w n A len c g1 g2 g3 B (upd L i x) R op (wr.setCell ⟨g1, i, none⟩ (.int .i64 x)) :=
  { h with box := h.box.far (Nat.ne_of_lt h.h1) _, lab := h.lab.set i x, rnk := h.rnk.far (a := ⟨g1, i, none⟩) (fun e => h.n12 e.symm) _, opn := h.opn.setOther (a := ⟨g1, i, none⟩) (fun e => h.n13 e.symm) _, bel := h.bel.setCell (p := ⟨g1, i, none⟩) (Nat.le_of_lt h.h1) _, hB := by simp [World.setCell]; exact h.hB }
theorem GB.setR (h : GB w n A len c g1 g2 g3 B L R op wr) (i : Nat) (x : Int) : GB w n A len c g1 g2 g3 B L (upd R i x) op (wr.setCell ⟨g2, i, none⟩ (.int .i64 x)) :=
  { h with box := h.box.far (Nat.ne_of_lt h.h2) _, rnk := h.rnk.set i x, lab := h.lab.far (a := ⟨g2, i, none⟩) h.n12 _, opn := h.opn.setOther (a := ⟨g2, i, none⟩) (fun e => h.n23 e.symm) _, bel := h.bel.setCell (p := ⟨g2, i, none⟩) (Nat.le_of_lt h.h2) _, hB := by simp [World.setCell]; exact h.hB }
theorem GB.setO (h : GB w n A len c g1 g2 g3 B L R op wr) (i : Nat) (x : Int) : GB w n A len c g1 g2 g3 B L R (upd op i x) (wr.setCell ⟨g3, i, none⟩ (.int .i64 x)) :=
  { h with box := h.box.far (Nat.ne_of_lt h.h3) _, lab := h.lab.far (a := ⟨g3, i, none⟩) h.n13 _, rnk := h.rnk.far (a := ⟨g3, i, none⟩) h.n23 _, opn := (h.opn.set i (.int .i64 x)).congr fun j _ => by unfold upd; split <;> rfl, bel := h.bel.setCell (p := ⟨g3, i, none⟩) (Nat.le_of_lt h.h3) _, hB := by simp [World.setCell]; exact h.hB }
end

theorem Eff.call {P : Program} {o : Oper} {a : Act} {w : World} {f : FuncId} {args : Array Value} {Post : Value → World → Prop} (hrun : (execOp a.eval o).run P w = .ok (.enter f args) w) (h : Calls P f args w fun e w' => ∃ v, e = .returned v ∧ Post v w') : Eff P o a w Post := by
  unfold Eff Oper.wp
  rw [hrun]
  refine h.mono ?_
  rintro e w' ⟨v, rfl, hp⟩
  exact ⟨v, rfl, hp⟩
theorem setQ_nil (x : Int) (L : Nat → Int) : setQ [] x L = L := by funext i; simp [setQ, inB]
theorem ivl {k : IntKind} {a b : Int} (h : a = b) : Value.int k a = Value.int k b := by rw [h]
theorem cntO_le (l : List (Int × Int)) (L : Nat → Int) (j : Nat) : cntO l L j ≤ l.length := by
  unfold cntO
  exact Nat.le_trans (List.length_filter_le _ _) (attackersL_len l j)
theorem nodup_len : ∀ (n : Nat) (l : List Int), l.Nodup → (∀ x ∈ l, ∃ j : Nat, j < n ∧ x = j) → l.length ≤ n
  | 0, l, _, h => by
    cases l with
    | nil => simp
    | cons x r => obtain ⟨j, hj, _⟩ := h x (List.mem_cons_self ..); omega
  | n + 1, l, hn, h => by
    have h1 := filter_drop_one (p := fun _ => true) (k := (n : Int)) rfl hn
    rw [List.filter_eq_self.2 (fun _ _ => rfl)] at h1
    have h2 := nodup_len n (l.filter fun x => true && x != (n : Int)) (hn.filter _) (fun x hx => by
      obtain ⟨hx1, hx2⟩ := List.mem_filter.1 hx
      obtain ⟨j, hj, rfl⟩ := h x hx1
      simp at hx2
      exact ⟨j, by omega, rfl⟩)
    split at h1 <;> omega
theorem OpI.len {n : Nat} {l : List (Int × Int)} {L op : Nat → Int} {nx ks : List Int} (h : OpI n l L op nx ks) : nx.length ≤ n :=
  nodup_len n nx h.nodup fun x hx => by obtain ⟨j, hj, e, _⟩ := (h.mem x).1 hx; exact ⟨j, hj, e⟩
theorem OpI.bnd {n : Nat} {l : List (Int × Int)} {L op : Nat → Int} {nx ks : List Int} (h : OpI n l L op nx ks) (hl : l.length ≤ 100000) {j : Nat} (hj : j < n) : 0 ≤ op j ∧ op j ≤ 100001 := by
  have h1 := h.cnt j hj
  have h2 := cntO_le l L j
  split at h1 <;> omega
theorem arr40 (w : World) : ∃ W0, w.alloc (.cells #[.int .i64 0, .int .i64 0, .int .i64 0, .int .i64 0, .int .i64 0, .int .i64 0, .int .i64 0, .int .i64 0, .int .i64 0, .int .i64 0, .int .i64 0, .int .i64 0, .int .i64 0, .int .i64 0, .int .i64 0, .int .i64 0, .int .i64 0, .int .i64 0, .int .i64 0, .int .i64 0, .int .i64 0, .int .i64 0, .int .i64 0, .int .i64 0, .int .i64 0, .int .i64 0, .int .i64 0, .int .i64 0, .int .i64 0, .int .i64 0, .int .i64 0, .int .i64 0, .int .i64 0, .int .i64 0, .int .i64 0, .int .i64 0, .int .i64 0, .int .i64 0, .int .i64 0, .int .i64 0] 76) = W0 ∧ W0.rowIs w.heap.size 76 40 (fun _ => .int .i64 0) ∧ Below w.heap.size w W0 ∧ W0.heap.size = w.heap.size + 1 := by
  refine ⟨_, rfl, ?_, (Below.refl _ _).alloc (Nat.le_refl _) _, by simp⟩
  have e : (#[.int .i64 0, .int .i64 0, .int .i64 0, .int .i64 0, .int .i64 0, .int .i64 0, .int .i64 0, .int .i64 0, .int .i64 0, .int .i64 0, .int .i64 0, .int .i64 0, .int .i64 0, .int .i64 0, .int .i64 0, .int .i64 0, .int .i64 0, .int .i64 0, .int .i64 0, .int .i64 0, .int .i64 0, .int .i64 0, .int .i64 0, .int .i64 0, .int .i64 0, .int .i64 0, .int .i64 0, .int .i64 0, .int .i64 0, .int .i64 0, .int .i64 0, .int .i64 0, .int .i64 0, .int .i64 0, .int .i64 0, .int .i64 0, .int .i64 0, .int .i64 0, .int .i64 0, .int .i64 0] : Array Value) = Array.replicate 40 (.int .i64 0) := by rfl
  rw [e]
  have := World.rowIs_alloc w (Array.replicate 40 (Value.int .i64 0)) 76 (fun _ => .int .i64 0) (fun i hi => by rw [Array.getElem?_replicate, if_pos (by simpa using hi)])
  simpa using this

/-- the call returns two new slices of n numbers -/
def RetFF (n : Nat) (f f' : Nat → Int) (w : World) : Ending → World → Prop := fun e w' => ∃ g g', e = .returned (.tuple #[.slice (some ⟨g, 0, none⟩) n n, .slice (some ⟨g', 0, none⟩) n n]) ∧ w.heap.size ≤ g ∧ w.heap.size ≤ g' ∧ Row w' g n f ∧ Row w' g' n f' ∧ Below w.heap.size w w'

set_option maxRecDepth 100000 in
set_option maxHeartbeats 4000000 in
theorem gbuild_any (A : Option Addr) (n : Nat) (l : List (Int × Int)) (c : Nat) (w : World) (hr : RP w A l) (hv : Vld n l) (hT : Tab w) :
    Calls Tryd.prog 13 #[.agg #[.int .i64 (n : Int), .slice A l.length c]] w (RetFF n (grL n l) (grR n l) w) := by
  have hn := hv.1.1; have hlen := hv.1.2.1
  have hmk := run_make_row' (P := Tryd.prog) 22 3 (.int .i64 0) 8 Tryd.underlying22 info_int rfl .i64 .i64 n (by omega) (by omega)
  have Hmk := Lib.hid hmk
  clear hmk
  go_enter Tryd.func13, Tryd.ntmps13
  go_wp2_with fail
  obtain ⟨W0, hW, c0, c1, hb0, hlt0⟩ := boxed w 27 (.int .i64 (n : Int)) (.slice A l.length c)
  have k0 : Blk W0 w.heap.size 27 #[.int .i64 (n : Int), .slice A l.length c] := by rw [← hW]; exact Blk.new w _ _
  rw [hW]
  clear hW
  go_upto_region 1 with fail
  go_cut [2, 3] (fun s2 s3 wx => ∃ g1 g2, s2 = .slice (some ⟨g1, 0, none⟩) n n ∧ s3 = .slice (some ⟨g2, 0, none⟩) n n ∧ Row wx g1 n (fun _ => 3) ∧ Row wx g2 n (fun _ => 0) ∧ W0.heap.size ≤ g1 ∧ W0.heap.size ≤ g2 ∧ g1 ≠ g2 ∧ Below W0.heap.size W0 wx)
  case first =>
    refine wp_region_tree [0, 3, 6] (fun w' => Below W0.heap.size W0 w') (fun _ => True) 9 [0, 1, 2, 3, 4, 5, 6, 7, 8] (by rfl) (by decide) (by kernel_rfl) (by kernel_rfl) (Below.refl _ _).drew trivial ?_
    refine TxtT.pure 1 (by rfl) (by rw [List.getElem?_toArray]; rfl) (by rfl) (by kernel_rfl) (by rfl) ?_; apply Exists.intro; refine ⟨fun w1 hS1 => ?_, ?_⟩; (focus ((have g0 := (hS1.cell (lt_of_cell c0)).trans c0); go_simp; with_reducible rfl))
    rw [show List.erase [0, 1, 2, 3, 4, 5, 6, 7, 8] 1 = [0, 2, 3, 4, 5, 6, 7, 8] from rfl]; simp only [Act.put, List.setIfInBounds_toArray, List.set_cons_zero, List.set_cons_succ]
    refine TxtT.pure 2 (by rfl) (by rw [List.getElem?_toArray]; rfl) (by rfl) (by kernel_rfl) (by rfl) ?_; apply Exists.intro; refine ⟨fun w1 hS1 => ?_, ?_⟩; (focus ((have g0 := (hS1.cell (lt_of_cell c0)).trans c0); go_simp; with_reducible rfl))
    rw [show List.erase [0, 2, 3, 4, 5, 6, 7, 8] 2 = [0, 3, 4, 5, 6, 7, 8] from rfl]; simp only [Act.put, List.setIfInBounds_toArray, List.set_cons_zero, List.set_cons_succ]
    refine TxtT.pure 4 (by rfl) (by rw [List.getElem?_toArray]; rfl) (by rfl) (by kernel_rfl) (by rfl) ?_; apply Exists.intro; refine ⟨fun w1 hS1 => ?_, ?_⟩; (focus ((have g0 := (hS1.cell (lt_of_cell c0)).trans c0); go_simp; with_reducible rfl))
    rw [show List.erase [0, 3, 4, 5, 6, 7, 8] 4 = [0, 3, 5, 6, 7, 8] from rfl]; simp only [Act.put, List.setIfInBounds_toArray, List.set_cons_zero, List.set_cons_succ]
    refine TxtT.pure 5 (by rfl) (by rw [List.getElem?_toArray]; rfl) (by rfl) (by kernel_rfl) (by rfl) ?_; apply Exists.intro; refine ⟨fun w1 hS1 => ?_, ?_⟩; (focus ((have g0 := (hS1.cell (lt_of_cell c0)).trans c0); go_simp; with_reducible rfl))
    rw [show List.erase [0, 3, 5, 6, 7, 8] 5 = [0, 3, 6, 7, 8] from rfl]; simp only [Act.put, List.setIfInBounds_toArray, List.set_cons_zero, List.set_cons_succ]
    refine TxtT.two 0 6 (by kernel_rfl) (by rw [List.getElem?_toArray]; rfl) (by rw [List.getElem?_toArray]; rfl) (by rfl) (by rfl) (by rfl) (by rfl) (fun v => ∃ g, v = Value.slice (some ⟨g, 0, none⟩) 1 1) (fun v w' => ∃ g, v = Value.slice (some ⟨g, 0, none⟩) 1 1 ∧ RI w' (some ⟨g, 0, none⟩) [3]) (fun v => ∃ g, v = Value.slice (some ⟨g, 0, none⟩) n n) (fun v w' => ∃ g, v = Value.slice (some ⟨g, 0, none⟩) n n ∧ Row w' g n (fun _ => 0) ∧ W0.heap.size ≤ g) (fun w1 hS1 hJ1 => ?_) (fun w1 hS1 hJ1 => ?_) ?_ ?_
    · exact Eff.value (w' := w1.alloc (.cells #[.int .i64 3] 3)) (v := .slice (some ⟨w1.heap.size, 0, none⟩) 1 1) (by go_simp) ⟨hS1.alloc hS1.size _, ⟨_, rfl⟩, _, rfl, new_ri1 _ _ _⟩
    · have hmk := Hmk.out
      exact Eff.value (w' := w1.alloc (.cells (madeCells #[.int .i64 0] n) 3)) (v := .slice (some ⟨w1.heap.size, 0, none⟩) n n) (by go_simp) ⟨hS1.alloc hS1.size _, ⟨_, rfl⟩, _, rfl, World.rowIs_made _ _ _ _, hS1.size⟩
    · rintro v ⟨g0, rfl⟩
      rw [show List.erase [0, 3, 6, 7, 8] 0 = [3, 6, 7, 8] from rfl]; simp only [Act.put, List.setIfInBounds_toArray, List.set_cons_zero, List.set_cons_succ]
      refine TxtT.two 3 6 (by kernel_rfl) (by rw [List.getElem?_toArray]; rfl) (by rw [List.getElem?_toArray]; rfl) (by rfl) (by rfl) (by rfl) (by rfl) (fun v => ∃ g, v = Value.slice (some ⟨g, 0, none⟩) n n) (fun v w' => ∃ g, v = Value.slice (some ⟨g, 0, none⟩) n n ∧ Row w' g n (fun _ => 3) ∧ W0.heap.size ≤ g) (fun v => ∃ g, v = Value.slice (some ⟨g, 0, none⟩) n n) (fun v w' => RI w' (some ⟨g0, 0, none⟩) [3] ∧ ∃ g, v = Value.slice (some ⟨g, 0, none⟩) n n ∧ Row w' g n (fun _ => 0) ∧ W0.heap.size ≤ g) (fun w1 hS1 hJ1 => ?_) (fun w1 hS1 hJ1 => ?_) ?_ ?_
      · obtain ⟨g, hg, hri⟩ := hJ1
        injection hg with hg _ _; injection hg with hg; injection hg with hg _ _; subst hg
        refine Eff.call (f := 27) (args := #[.slice (some ⟨g0, 0, none⟩) 1 1, .int .i64 (n : Int)]) (by go_simp) ((repeat_any _ 3 1 n w1 hri (by omega)).mono ?_)
        rintro e w' ⟨g, rfl, hg, hrow, hb⟩
        exact ⟨_, rfl, hS1.trans (hb.mono hS1.size), ⟨_, rfl⟩, _, rfl, hrow, Nat.le_trans hS1.size hg⟩
      · obtain ⟨g, hg, hri⟩ := hJ1
        injection hg with hg _ _; injection hg with hg; injection hg with hg _ _; subst hg
        have hmk := Hmk.out
        exact Eff.value (w' := w1.alloc (.cells (madeCells #[.int .i64 0] n) 3)) (v := .slice (some ⟨w1.heap.size, 0, none⟩) n n) (by go_simp) ⟨hS1.alloc hS1.size _, ⟨_, rfl⟩, hri.below (newB _ _), _, rfl, World.rowIs_made _ _ _ _, hS1.size⟩
      · rintro v ⟨g1, rfl⟩
        rw [show List.erase [3, 6, 7, 8] 3 = [6, 7, 8] from rfl]; simp only [Act.put, List.setIfInBounds_toArray, List.set_cons_zero, List.set_cons_succ]
        refine TxtT.pure 7 (by rfl) (by rw [List.getElem?_toArray]; rfl) (by rfl) (by kernel_rfl) (by rfl) ?_; apply Exists.intro; refine ⟨fun w1 hS1 => ?_, ?_⟩; (focus (skip; go_simp; with_reducible rfl))
        rw [show List.erase [6, 7, 8] 7 = [6, 8] from rfl]; simp only [Act.put, List.setIfInBounds_toArray, List.set_cons_zero, List.set_cons_succ]
        refine TxtT.one 6 (by kernel_rfl) (by rw [List.getElem?_toArray]; rfl) (by rfl) (by rfl) (fun v => ∃ g, v = Value.slice (some ⟨g, 0, none⟩) n n) (fun v w' => ∃ g, v = Value.slice (some ⟨g, 0, none⟩) n n ∧ Row w' g1 n (fun _ => 3) ∧ W0.heap.size ≤ g1 ∧ Row w' g n (fun _ => 0) ∧ W0.heap.size ≤ g ∧ g1 ≠ g) (fun w1 hS1 hJ1 => ?_) ?_
        · obtain ⟨g, hg, hrow, hle⟩ := hJ1
          injection hg with hg _ _; injection hg with hg; injection hg with hg _ _; subst hg
          have hmk := Hmk.out
          exact Eff.value (w' := w1.alloc (.cells (madeCells #[.int .i64 0] n) 3)) (v := .slice (some ⟨w1.heap.size, 0, none⟩) n n) (by go_simp) ⟨hS1.alloc hS1.size _, ⟨_, rfl⟩, _, rfl, World.rowIs.alloc hrow _, hle, World.rowIs_made _ _ _ _, hS1.size, Nat.ne_of_lt hrow.lt⟩
        rintro v ⟨g2, rfl⟩
        rw [show List.erase [6, 8] 6 = [8] from rfl]; simp only [Act.put, List.setIfInBounds_toArray, List.set_cons_zero, List.set_cons_succ]
        refine TxtT.pure 8 (by rfl) (by rw [List.getElem?_toArray]; rfl) (by rfl) (by kernel_rfl) (by rfl) ?_; apply Exists.intro; refine ⟨fun w1 hS1 => ?_, ?_⟩; (focus (skip; go_simp; with_reducible rfl))
        rw [show List.erase [8] 8 = [] from rfl]; simp only [Act.put, List.setIfInBounds_toArray, List.set_cons_zero, List.set_cons_succ]
        refine ⟨rfl, fun W1 hS hJ => ?_⟩
        obtain ⟨g, hg, h1, h2, h3, h4, h5⟩ := hJ
        injection hg with hg _ _; injection hg with hg; injection hg with hg _ _; subst hg
        go_wp2_with fail
        go_meet
        exact ⟨g1, g2, rfl, rfl, h1, h3, h2, h4, h5, hS⟩
      · rintro v ⟨g2, rfl⟩
        rw [show List.erase [3, 6, 7, 8] 6 = [3, 7, 8] from rfl]; simp only [Act.put, List.setIfInBounds_toArray, List.set_cons_zero, List.set_cons_succ]
        refine TxtT.one 3 (by kernel_rfl) (by rw [List.getElem?_toArray]; rfl) (by rfl) (by rfl) (fun v => ∃ g, v = Value.slice (some ⟨g, 0, none⟩) n n) (fun v w' => ∃ g, v = Value.slice (some ⟨g, 0, none⟩) n n ∧ Row w' g n (fun _ => 3) ∧ W0.heap.size ≤ g ∧ Row w' g2 n (fun _ => 0) ∧ W0.heap.size ≤ g2 ∧ g ≠ g2) (fun w1 hS1 hJ1 => ?_) ?_
        · obtain ⟨hri, g, hg, hrow, hle⟩ := hJ1
          injection hg with hg _ _; injection hg with hg; injection hg with hg _ _; subst hg
          refine Eff.call (f := 27) (args := #[.slice (some ⟨g0, 0, none⟩) 1 1, .int .i64 (n : Int)]) (by go_simp) ((repeat_any _ 3 1 n w1 hri (by omega)).mono ?_)
          rintro e w' ⟨g, rfl, hg, hrow', hb⟩
          exact ⟨_, rfl, hS1.trans (hb.mono hS1.size), ⟨_, rfl⟩, _, rfl, hrow', Nat.le_trans hS1.size hg, rowIs_new hrow hb, hle, by have := hrow.lt; omega⟩
        rintro v ⟨g1, rfl⟩
        rw [show List.erase [3, 7, 8] 3 = [7, 8] from rfl]; simp only [Act.put, List.setIfInBounds_toArray, List.set_cons_zero, List.set_cons_succ]
        refine TxtT.pure 7 (by rfl) (by rw [List.getElem?_toArray]; rfl) (by rfl) (by kernel_rfl) (by rfl) ?_; apply Exists.intro; refine ⟨fun w1 hS1 => ?_, ?_⟩; (focus (skip; go_simp; with_reducible rfl))
        rw [show List.erase [7, 8] 7 = [8] from rfl]; simp only [Act.put, List.setIfInBounds_toArray, List.set_cons_zero, List.set_cons_succ]
        refine TxtT.pure 8 (by rfl) (by rw [List.getElem?_toArray]; rfl) (by rfl) (by kernel_rfl) (by rfl) ?_; apply Exists.intro; refine ⟨fun w1 hS1 => ?_, ?_⟩; (focus (skip; go_simp; with_reducible rfl))
        rw [show List.erase [8] 8 = [] from rfl]; simp only [Act.put, List.setIfInBounds_toArray, List.set_cons_zero, List.set_cons_succ]
        refine ⟨rfl, fun W1 hS hJ => ?_⟩
        obtain ⟨g, hg, h1, h2, h3, h4, h5⟩ := hJ
        injection hg with hg _ _; injection hg with hg; injection hg with hg _ _; subst hg
        go_wp2_with fail
        go_meet
        exact ⟨g1, g2, rfl, rfl, h1, h3, h2, h4, h5, hS⟩
    · rintro v ⟨g2, rfl⟩
      rw [show List.erase [0, 3, 6, 7, 8] 6 = [0, 3, 7, 8] from rfl]; simp only [Act.put, List.setIfInBounds_toArray, List.set_cons_zero, List.set_cons_succ]
      refine TxtT.one 0 (by kernel_rfl) (by rw [List.getElem?_toArray]; rfl) (by rfl) (by rfl) (fun v => ∃ g, v = Value.slice (some ⟨g, 0, none⟩) 1 1) (fun v w' => ∃ g, v = Value.slice (some ⟨g, 0, none⟩) 1 1 ∧ RI w' (some ⟨g, 0, none⟩) [3] ∧ Row w' g2 n (fun _ => 0) ∧ W0.heap.size ≤ g2) (fun w1 hS1 hJ1 => ?_) ?_
      · obtain ⟨g, hg, hrow, hle⟩ := hJ1
        injection hg with hg _ _; injection hg with hg; injection hg with hg _ _; subst hg
        exact Eff.value (w' := w1.alloc (.cells #[.int .i64 3] 3)) (v := .slice (some ⟨w1.heap.size, 0, none⟩) 1 1) (by go_simp) ⟨hS1.alloc hS1.size _, ⟨_, rfl⟩, _, rfl, new_ri1 _ _ _, World.rowIs.alloc hrow _, hle⟩
      rintro v ⟨g0, rfl⟩
      rw [show List.erase [0, 3, 7, 8] 0 = [3, 7, 8] from rfl]; simp only [Act.put, List.setIfInBounds_toArray, List.set_cons_zero, List.set_cons_succ]
      refine TxtT.one 3 (by kernel_rfl) (by rw [List.getElem?_toArray]; rfl) (by rfl) (by rfl) (fun v => ∃ g, v = Value.slice (some ⟨g, 0, none⟩) n n) (fun v w' => ∃ g, v = Value.slice (some ⟨g, 0, none⟩) n n ∧ Row w' g n (fun _ => 3) ∧ W0.heap.size ≤ g ∧ Row w' g2 n (fun _ => 0) ∧ W0.heap.size ≤ g2 ∧ g ≠ g2) (fun w1 hS1 hJ1 => ?_) ?_
      · obtain ⟨g, hg, hri, hrow, hle⟩ := hJ1
        injection hg with hg _ _; injection hg with hg; injection hg with hg _ _; subst hg
        refine Eff.call (f := 27) (args := #[.slice (some ⟨g0, 0, none⟩) 1 1, .int .i64 (n : Int)]) (by go_simp) ((repeat_any _ 3 1 n w1 hri (by omega)).mono ?_)
        rintro e w' ⟨g, rfl, hg, hrow', hb⟩
        exact ⟨_, rfl, hS1.trans (hb.mono hS1.size), ⟨_, rfl⟩, _, rfl, hrow', Nat.le_trans hS1.size hg, rowIs_new hrow hb, hle, by have := hrow.lt; omega⟩
      rintro v ⟨g1, rfl⟩
      rw [show List.erase [3, 7, 8] 3 = [7, 8] from rfl]; simp only [Act.put, List.setIfInBounds_toArray, List.set_cons_zero, List.set_cons_succ]
      refine TxtT.pure 7 (by rfl) (by rw [List.getElem?_toArray]; rfl) (by rfl) (by kernel_rfl) (by rfl) ?_; apply Exists.intro; refine ⟨fun w1 hS1 => ?_, ?_⟩; (focus (skip; go_simp; with_reducible rfl))
      rw [show List.erase [7, 8] 7 = [8] from rfl]; simp only [Act.put, List.setIfInBounds_toArray, List.set_cons_zero, List.set_cons_succ]
      refine TxtT.pure 8 (by rfl) (by rw [List.getElem?_toArray]; rfl) (by rfl) (by kernel_rfl) (by rfl) ?_; apply Exists.intro; refine ⟨fun w1 hS1 => ?_, ?_⟩; (focus (skip; go_simp; with_reducible rfl))
      rw [show List.erase [8] 8 = [] from rfl]; simp only [Act.put, List.setIfInBounds_toArray, List.set_cons_zero, List.set_cons_succ]
      refine ⟨rfl, fun W1 hS hJ => ?_⟩
      obtain ⟨g, hg, h1, h2, h3, h4, h5⟩ := hJ
      injection hg with hg _ _; injection hg with hg; injection hg with hg _ _; subst hg
      go_wp2_with fail
      go_meet
      exact ⟨g1, g2, rfl, rfl, h1, h3, h2, h4, h5, hS⟩
  obtain ⟨g1, g2, rfl, rfl, hrow1, hrow2, hle1, hle2, h12, hS⟩ := hcut
  generalize wc = W1 at hrow1 hrow2 hS ⊢
  obtain ⟨W2, hW2, hrow3, hb2, hs2⟩ := arr40 W1
  have hb02 : Below W0.heap.size W0 W2 := hS.trans (hb2.mono hS.size)
  have d0 := (hb02.cell (lt_of_cell c0)).trans c0
  have d1 := (hb02.cell (lt_of_cell c1)).trans c1
  have hst : GB w n A l.length c g1 g2 W1.heap.size W2.heap.size (fun _ => 3) (fun _ => 0) (fun _ => 0) W2 :=
    { box := k0.below hb02 k0.lt, lab := rowIs_new hrow1 hb2, rnk := rowIs_new hrow2 hb2, opn := hrow3, bel := endB hb0 hb02, h1 := by omega, h2 := by omega, h3 := by have := hS.size; omega, n12 := by omega, n13 := by have := hrow1.lt; omega, n23 := by have := hrow2.lt; omega, b1 := by have := hrow1.lt; omega, b2 := by have := hrow2.lt; omega, b3 := by omega, hB := Nat.le_refl _ }
  go_wp2_with fail
  clear hW2 hb2 hs2 hrow3 hrow2 hrow1 hb02 hle1 hle2 h12 hS k0 c0 c1 d0 d1 hb0 hlt0
  generalize W1.heap.size = g3 at *
  obtain ⟨B, hB⟩ : ∃ B, W2.heap.size = B := ⟨_, rfl⟩
  rw [hB] at hst
  have HB := Lib.hid hB
  clear hB
  go_loopw [29] (fun i wr => ∃ (k : Nat) (op : Nat → Int), k ≤ l.length ∧ i = .int .i64 k ∧ (∀ j, op j = (attackersL (l.take k) j).length) ∧ GB w n A l.length c g1 g2 g3 B (fun _ => 3) (fun _ => 0) op wr) (fun i _ => l.length - (intOf i).toNat)
  case atStart => exact ⟨0, _, Nat.zero_le _, rfl, fun _ => by simp [attackersL], hst⟩
  case round =>
    clear hst
    obtain ⟨k, op, hk, rfl, hop, hst⟩ := hrel
    have Hop := Lib.hid hop; clear hop
    obtain ⟨d0, d1, _, _⟩ := hst.box.two
    by_cases hlt : k < l.length
    case pos =>
      obtain ⟨b, o, rfl, hc, hd⟩ := (hr.below hst.bel).at_ hlt
      obtain ⟨v1, v2, v3, v4⟩ := hv.1.2.2 l[k] (List.getElem_mem _)
      obtain ⟨W0', hW, e0, e1, hbW, hltW⟩ := boxed wr 50 (.int .i64 l[k].1) (.int .i64 l[k].2)
      obtain ⟨z, hz⟩ := Int.eq_ofNat_of_zero_le v3
      rw [hz] at v3 v4 e1 hd hW
      have Hz := Lib.hid hz
      have hst0 := hst.below hbW
      have hz40 : z < 40 := by omega
      have hca := World.rowIs.cell hst0.opn hz40
      have hfa := World.rowIs.frozen hst0.opn z
      have hob : 0 ≤ op z ∧ op z ≤ 100000 := by
        have h1 := Hop.out z; have h2 := attackersL_len (l.take k) z; have h3 := List.length_take_le k l; omega
      obtain ⟨hob1, hob2⟩ := hob
      have Hst0 := Lib.hid hst0
      clear hz hst0
      go_wp2_with fail
      clear hW
      have hst1 := Hst0.out.setO z (op z + 1)
      go_roundw
      case rel =>
        refine ⟨k + 1, _, by omega, by go_num, fun j => ?_, hst1⟩
        by_cases e : j = z
        · subst e
          rw [upd_same, attackersL_hit hlt Hz.out, List.length_append, Hop.out]; simp
        · rw [upd_ne e, attackersL_miss hlt (by rw [Hz.out]; omega), Hop.out]
      case measure => simp [intOf]; omega
    case neg =>
    have hop : ∀ j, j < n → op j = (attackersL l j).length := fun j _ => by rw [Hop.out, List.take_of_length_le (by omega)]
    obtain ⟨hcnt, hque⟩ := que_start hv.1 hop
    have Hcnt := Lib.hid hcnt; have Hque := Lib.hid hque
    clear Hop hop hcnt hque HB
    go_wp2_with fail
    clear d0 d1 hlt hk
    go_loopw [7, 42] (fun v i wr => ∃ (k : Nat), k ≤ n ∧ i = .int .i64 k ∧ OwnI wr B v (nodesB k fun i => op i == 0) ∧ GB w n A l.length c g1 g2 g3 B (fun _ => 3) (fun _ => 0) op wr) (fun _ i _ => n - (intOf i).toNat)
    case atStart => exact ⟨0, Nat.zero_le _, rfl, OwnI.nil _ _, hst⟩
    case round =>
      clear hst
      obtain ⟨k, hk, rfl, hown, hst⟩ := hrel
      have Hown := Lib.hid hown; clear hown
      by_cases hkn : k < n
      case pos =>
        have hk40 : k < 40 := by omega
        have hca := World.rowIs.cell hst.opn hk40
        have hlq : (nodesB k fun i => op i == 0).length ≤ 1000000 := by have := nodesB_length k (fun i => op i == 0); omega
        by_cases h0 : op k = 0
        · have hd : (op k == 0) = true := by simpa using h0
          have H0 := Lib.hid hd; clear h0
          go_wp2_with (at_builtin; refine wpList_appI (by rfl) _ _ (by rfl) wr B _ _ (k : Int) Hown.out (by rfl) (by rfl) hlq hst.hB ?_; intro v' w3 hown' hb3 hg3)
          have hst3 := hst.append Hown.out hg3 hb3
          go_roundw
          case rel => exact ⟨k + 1, by omega, by go_num, by rw [nodesB_succ, if_pos H0.out]; exact hown', hst3⟩
          case measure => simp [intOf]; omega
        · have hd : (op k == 0) = false := by simpa using h0
          have H0 := Lib.hid hd; clear h0
          go_wp2_with fail
          go_roundw
          case rel => exact ⟨k + 1, by omega, by go_num, by rw [nodesB_succ, if_neg (by rw [H0.out]; simp), List.append_nil]; exact Hown.out, hst⟩
          case measure => simp [intOf]; omega
      case neg =>
      obtain rfl : n = k := by omega
      have hgl : nGl n l = l := by unfold nGl; rw [hv.valE]; rfl
      have Hgl := Lib.hid hgl
      go_wp2_with fail
      clear hk hkn hgl
      have hql := nodesB_length n (fun i => op i == 0)
      go_loopw [7, 9] (fun vq r wr => ∃ (k : Nat) (q : List Int) (op : Nat → Int), r = .int .i64 ((k : Int) + 1) ∧ OwnI wr B vq q ∧ q.length ≤ n ∧ QueI n l (stL n l k) q ∧ (∀ j, j < n → op j = cntO l (stL n l k) j) ∧ (∀ p, p < k → ¬ restB n l (stL n l p)) ∧ GB w n A l.length c g1 g2 g3 B (stL n l k) (stR n l k) op wr) (fun _ r _ => n + 2 - (intOf r).toNat)
      case atStart => exact ⟨0, _, op, rfl, Hown.out, hql, Hque.out, Hcnt.out, fun p hp => absurd hp (by omega), hst⟩
      case round =>
        clear hst Hown Hque Hcnt hql
        obtain ⟨k, q, op, rfl, hown, hql, hque, hcnt, hpre, hst⟩ := hrel
        have hkn : k ≤ n := round_le hv.1 hpre
        have Hown := Lib.hid hown; have Hque := Lib.hid hque; have Hcnt := Lib.hid hcnt; have Hpre := Lib.hid hpre
        clear hown hque hcnt hpre
        obtain ⟨Aq, cq, rfl, hrq, _⟩ := Hown.out.form
        by_cases hq0 : q.length = 0
        · have hq1 : ¬ 0 < q.length := by omega
          have hrest : restB n l (stL n l k) := que_nil (by have := Hque.out; rwa [List.eq_nil_of_length_eq_zero hq0] at this)
          obtain ⟨e1, e2⟩ := rest_final hv.1 hrest
          have E1 := Lib.hid e1; have E2 := Lib.hid e2
          clear hrest e1 e2 hq0
          go_wp2_with fail
          go_ret2
          exact ⟨g1, g2, rfl, Nat.le_of_lt hst.h1, Nat.le_of_lt hst.h2, by rw [← E1.out]; exact hst.lab, by rw [← E2.out]; exact hst.rnk, hst.bel⟩
        have hq1 : 0 < q.length := by omega
        have Hq0 := Lib.hid hq0
        clear hq0
        obtain ⟨wo, hwo⟩ : ∃ wo, wo = wr := ⟨_, rfl⟩
        subst hwo
        go_wp2_with fail
        go_loopw [61] (fun i wr => ∃ (t : Nat), t ≤ q.length ∧ i = .int .i64 t ∧ OwnI wr B (.slice Aq q.length cq) q ∧ GB w n A l.length c g1 g2 g3 B (setQ (q.take t) 1 (stL n l k)) (setQ (q.take t) ((k : Int) + 1) (stR n l k)) op wr) (fun i _ => q.length - (intOf i).toNat)
        case atStart => exact ⟨0, Nat.zero_le _, rfl, Hown.out, by rw [List.take_zero, setQ_nil, setQ_nil]; exact hst⟩
        case round =>
          clear hst hrq Hown
          obtain ⟨t, ht, rfl, hown, hst⟩ := hrel
          have Hown := Lib.hid hown; clear hown
          by_cases htq : t < q.length
          case pos =>
            obtain ⟨b, o, rfl, hc⟩ := Hown.out.ri.at_ htq
            obtain ⟨j, hj, hjn, hjf⟩ := Hque.out.nat (List.getElem_mem htq)
            rw [hj] at hc
            have Hj := Lib.hid hj
            have hL := hst.lab.cell hjn
            have hLf := hst.lab.frozen j
            have hst1 := hst.setL j 1
            have hR := hst1.rnk.cell hjn
            have hRf := hst1.rnk.frozen j
            have Hst1 := Lib.hid hst1
            have hb1 := hst.b1; have hb2 := hst.b2
            clear hj hst1 hjf
            go_wp2_with fail
            have hst2 := Hst1.out.setR j ((k : Int) + 1)
            have hown2 := (Hown.out.farB (a := ⟨g1, j, none⟩) hb1 (.int .i64 1)).farB (a := ⟨g2, j, none⟩) hb2 (.int .i64 ((k : Int) + 1))
            go_roundw
            case rel => exact ⟨t + 1, by omega, by go_num, hown2, by rw [setQ_step htq Hj.out, setQ_step htq Hj.out]; exact hst2⟩
            case measure => simp [intOf]; omega
          case neg =>
          have hfull : q.take t = q := List.take_of_length_le (by omega)
          rw [hfull] at hst
          clear hfull
          have e1 : setQ q 1 (stL n l k) = midL n l (stL n l k) := setQ_all Hque.out _ _
          have e2 : setQ q ((k : Int) + 1) (stR n l k) = midR n l (stL n l k) ((k : Int) + 1) (stR n l k) := setQ_all Hque.out _ _
          rw [e1, e2] at hst
          clear e1 e2
          obtain ⟨hcur, hopi⟩ := mid_start (r := (k : Int) + 1) (R := stR n l k) hv Hcnt.out
          have Hcur := Lib.hid hcur; have Hopi := Lib.hid hopi
          clear hcur hopi
          go_wp2_with fail
          go_loopw [12, 75] (fun v i wr => ∃ (t : Nat) (L R op : Nat → Int) (nx : List Int), t ≤ q.length ∧ i = .int .i64 t ∧ OwnI wr B v nx ∧ OwnI wr B (.slice Aq q.length cq) q ∧ Far v (.slice Aq q.length cq) ∧ GB w n A l.length c g1 g2 g3 B L R op wr ∧ CurI l (midL n l (stL n l k)) (midR n l (stL n l k) ((k : Int) + 1) (stR n l k)) ((k : Int) + 1) q L R ∧ OpI n l L op nx [] ∧ ∀ x ∈ q.take t, ∀ j : Nat, (x, (j : Int)) ∈ l → L j ≠ 3) (fun _ i _ => q.length - (intOf i).toNat)
          case atStart => exact ⟨0, _, _, op, [], Nat.zero_le _, rfl, OwnI.nil _ _, Hown.out, Far.nil _, hst, Hcur.out, Hopi.out, fun x hx => by simp at hx⟩
          case round =>
            clear hst Hown Hcur Hopi Hcnt
            obtain ⟨t, L, R, op, nx, ht, rfl, hv1, hown, hfar, hst, hcur, hopi, hdone⟩ := hrel
            have Hv1 := Lib.hid hv1; have Hown := Lib.hid hown; have Hcur := Lib.hid hcur; have Hopi := Lib.hid hopi; have Hdone := Lib.hid hdone; have Hfar := Lib.hid hfar
            clear hv1 hown hcur hopi hdone hfar
            obtain ⟨Av, cv, rfl, _, _⟩ := Hv1.out.form
            by_cases htq : t < q.length
            case neg =>
              have hfull : q.take t = q := List.take_of_length_le (by omega)
              have hd := Hdone.out
              rw [hfull] at hd
              obtain ⟨e1, e2, e3, e4⟩ := round_end hv Hque.out Hcur.out Hopi.out hd
              have hlen' := Hopi.out.len
              have Hr := Lib.hid (que_some Hque.out hq1)
              have E1 := Lib.hid e1; have E2 := Lib.hid e2; have E3 := Lib.hid e3; have E4 := Lib.hid e4
              clear hfull hd e1 e2 e3 e4
              go_wp2_with fail
              go_roundw
              case rel =>
                refine ⟨k + 1, nx, op, ivl (by omega), Hv1.out, hlen', ?_, ?_, ?_, ?_⟩
                · have := E4.out; rw [E1.out] at this; exact this
                · have := E3.out; rw [E1.out] at this; exact this
                · intro p hp
                  by_cases e : p = k
                  · subst e; exact Hr.out
                  · exact Hpre.out p (by omega)
                · have h5 := hst
                  rw [E1.out, E2.out] at h5
                  exact h5
              case measure => simp [intOf]; omega
            case pos =>
            obtain ⟨b, o, rfl, hc⟩ := Hown.out.ri.at_ htq
            obtain ⟨i, hi, hin, _⟩ := Hque.out.nat (List.getElem_mem htq)
            rw [hi] at hc
            have Hi := Lib.hid hi
            obtain ⟨d0, d1, _, _⟩ := hst.box.two
            clear hi
            go_wp2_with fail
            refine (gAttacked_any A n l c i wr (hr.below hst.bel) hlen (hT.below hst.bel)).mono ?_
            rintro e w3 ⟨Ak, ck, rfl, hok, hrk, _, hb3⟩
            rw [Hgl.out] at hok hrk ⊢
            have hst3 := hst.below hb3
            have hfk := Far.fresh Hv1.out (OwnI.block hok)
            have hv3 := Hv1.out.below hb3
            have hown3 := Hown.out.below hb3
            have hok3 := hok.mono hst.hB
            obtain ⟨ks, hks⟩ : ∃ ks, attackedL l i = ks := ⟨_, rfl⟩
            rw [hks] at hok3 hfk ⊢
            have Hks := Lib.hid hks
            clear hst hb3 hok hrk hks Hv1 Hown d0 d1 hc
            have hksn : ∀ x ∈ ks, ∃ kk : Nat, x = kk ∧ kk < n ∧ att l i kk := fun x hx => by rw [← Hks.out] at hx; exact attacked_nat hv.1 hx
            have hkl : ks.length ≤ 100000 := by rw [← Hks.out]; have := attackedL_len l i; omega
            have Hksn := Lib.hid hksn
            clear hksn
            go_wp2_with fail
            go_loopw [12, 83] (fun v s wr => ∃ (p : Nat) (L R op : Nat → Int) (nx : List Int), p ≤ ks.length ∧ s = .int .i64 p ∧ OwnI wr B v nx ∧ OwnI wr B (.slice (some ⟨b, o, none⟩) q.length cq) q ∧ OwnI wr B (.slice Ak ks.length ck) ks ∧ Far v (.slice (some ⟨b, o, none⟩) q.length cq) ∧ Far v (.slice Ak ks.length ck) ∧ GB w n A l.length c g1 g2 g3 B L R op wr ∧ CurI l (midL n l (stL n l k)) (midR n l (stL n l k) ((k : Int) + 1) (stR n l k)) ((k : Int) + 1) q L R ∧ OpI n l L op nx [] ∧ (∀ x ∈ q.take t, ∀ j : Nat, (x, (j : Int)) ∈ l → L j ≠ 3) ∧ ∀ x ∈ ks.take p, L x.toNat ≠ 3) (fun _ s _ => ks.length - (intOf s).toNat)
            case atStart => exact ⟨0, L, R, op, nx, Nat.zero_le _, rfl, hv3, hown3, hok3, Hfar.out, hfk, hst3, Hcur.out, Hopi.out, Hdone.out, fun x hx => by simp at hx⟩
            case round =>
              clear hst3 hv3 hown3 hok3 Hcur Hopi Hdone Hfar hfk
              obtain ⟨p, L, R, op, nx, hp, rfl, hv1, hown, hok, hfar, hfk, hst, hcur, hopi, hdone, hdk⟩ := hrel
              have Hv1 := Lib.hid hv1; have Hown := Lib.hid hown; have Hok := Lib.hid hok; have Hcur := Lib.hid hcur; have Hopi := Lib.hid hopi; have Hdone := Lib.hid hdone; have Hfar := Lib.hid hfar; have Hfk := Lib.hid hfk; have Hdk := Lib.hid hdk
              clear hv1 hown hok hcur hopi hdone hfar hfk hdk
              obtain ⟨Av, cv, rfl, _, _⟩ := Hv1.out.form
              by_cases hps : p < ks.length
              case neg =>
                have hfull : ks.take p = ks := List.take_of_length_le (by omega)
                have hdk := Hdk.out
                rw [hfull] at hdk
                have Hdk2 := Lib.hid hdk
                clear hfull hdk
                go_wp2_with fail
                go_roundw
                case rel =>
                  refine ⟨t + 1, L, R, op, nx, by omega, by go_num, Hv1.out, Hown.out, Hfar.out, hst, Hcur.out, Hopi.out, fun x hx j hj => ?_⟩
                  rw [List.take_succ_eq_append_getElem htq, List.mem_append, List.mem_singleton] at hx
                  rcases hx with hx | hx
                  · exact Hdone.out x hx j hj
                  · rw [hx, Hi.out] at hj
                    exact Hdk2.out (j : Int) (by rw [← Hks.out]; exact mem_attackedL.2 hj)
                case measure => simp [intOf]; omega
              case pos =>
              obtain ⟨b2, o2, rfl, hc2⟩ := Hok.out.ri.at_ hps
              obtain ⟨kk, hkk, hkn2, hatt⟩ := Hksn.out _ (List.getElem_mem hps)
              rw [hkk] at hc2
              have Hkk := Lib.hid hkk
              have hL := hst.lab.cell hkn2
              clear hkk
              by_cases hund : L kk = 3
              case neg =>
                have hd : (L kk != 3) = true := by simpa using hund
                have Hund := Lib.hid hund
                clear hund
                go_wp2_with fail
                go_roundw
                case rel =>
                  refine ⟨p + 1, L, R, op, nx, by omega, by go_num, Hv1.out, Hown.out, Hok.out, Hfar.out, Hfk.out, hst, Hcur.out, Hopi.out, Hdone.out, fun x hx => ?_⟩
                  rw [List.take_succ_eq_append_getElem hps, List.mem_append, List.mem_singleton] at hx
                  rcases hx with hx | hx
                  · exact Hdk.out x hx
                  · rw [hx, Hkk.out]; exact Hund.out
                case measure => simp [intOf]; omega
              case pos =>
              have hd : (L kk != 3) = false := by simpa using hund
              have hiq : (i : Int) ∈ q := by rw [← Hi.out]; exact List.getElem_mem htq
              obtain ⟨hcur2, hopi2⟩ := cur_out hv rfl Hque.out Hcur.out Hopi.out hiq hatt hund
              have Hcur2 := Lib.hid hcur2; have Hopi2 := Lib.hid hopi2
              have hLf := hst.lab.frozen kk
              have hst1 := hst.setL kk 2
              have hR := hst1.rnk.cell hkn2
              have hRf := hst1.rnk.frozen kk
              have hst2 := hst1.setR kk ((k : Int) + 1)
              have hb1 := hst.b1; have hb2 := hst.b2
              have hv2 := (Hv1.out.farB (a := ⟨g1, kk, none⟩) hb1 (.int .i64 2)).farB (a := ⟨g2, kk, none⟩) hb2 (.int .i64 ((k : Int) + 1))
              have hown2 := (Hown.out.farB (a := ⟨g1, kk, none⟩) hb1 (.int .i64 2)).farB (a := ⟨g2, kk, none⟩) hb2 (.int .i64 ((k : Int) + 1))
              have hok2 := (Hok.out.farB (a := ⟨g1, kk, none⟩) hb1 (.int .i64 2)).farB (a := ⟨g2, kk, none⟩) hb2 (.int .i64 ((k : Int) + 1))
              have hund2 := Lib.hid hund
              have hdone2 : ∀ x ∈ q.take t, ∀ j : Nat, (x, (j : Int)) ∈ l → upd L kk 2 j ≠ 3 := fun x hx j hj => by
                unfold upd; split
                · omega
                · exact Hdone.out x hx j hj
              have hdk2 : ∀ x ∈ ks.take (p + 1), upd L kk 2 x.toNat ≠ 3 := fun x hx => by
                unfold upd; split
                · omega
                · rename_i hne
                  rw [List.take_succ_eq_append_getElem hps, List.mem_append, List.mem_singleton] at hx
                  rcases hx with hx | hx
                  · exact Hdk.out x hx
                  · exfalso; apply hne; rw [hx, Hkk.out]; rfl
              have Hdone2 := Lib.hid hdone2; have Hdk2 := Lib.hid hdk2; have Hst2 := Lib.hid hst2; have Hv2 := Lib.hid hv2; have Hown2 := Lib.hid hown2; have Hok2 := Lib.hid hok2
              clear hdone2 hdk2 hst2 hv2 hown2 hok2 hund hcur2 hopi2 hst1 Hcur Hopi Hdone Hdk Hv1 Hown Hok
              obtain ⟨d0, d1, _, _⟩ := Hst2.out.box.two
              go_wp2_with fail
              clear hL hLf hR hRf hst hb1 hb2 hc2
              generalize (wr.setCell ⟨g1, kk, none⟩ (.int .i64 2)).setCell ⟨g2, kk, none⟩ (.int .i64 ((k : Int) + 1)) = wx at *
              have hst := Hst2.out
              refine (gAttacked_any A n l c kk wx (hr.below hst.bel) hlen (hT.below hst.bel)).mono ?_
              rintro e w5 ⟨Am, cm, rfl, hom, hrm, _, hb5⟩
              rw [Hgl.out] at hom hrm ⊢
              have hst5 := hst.below hb5
              have hfm := Far.fresh Hv2.out (OwnI.block hom)
              have hv5 := Hv2.out.below hb5
              have hown5 := Hown2.out.below hb5
              have hok5 := Hok2.out.below hb5
              have hom5 := hom.mono hst.hB
              obtain ⟨ms, hms⟩ : ∃ ms, attackedL l kk = ms := ⟨_, rfl⟩
              have hmnd : ms.Nodup := by rw [← hms]; exact sorted_nodup (attackedL_sorted hv.2 _)
              have hmsn : ∀ x ∈ ms, ∃ jj : Nat, x = jj ∧ jj < n := fun x hx => by rw [← hms] at hx; obtain ⟨a, h1, h2, _⟩ := attacked_nat hv.1 hx; exact ⟨a, h1, h2⟩
              have hml : ms.length ≤ 100000 := by rw [← hms]; have := attackedL_len l kk; omega
              have hopi2 := Hopi2.out
              rw [hms] at hom5 hfm hopi2 ⊢
              have Hms := Lib.hid hms; have Hmnd := Lib.hid hmnd; have Hmsn := Lib.hid hmsn; have Hopi3 := Lib.hid hopi2
              clear hst hb5 hom hrm hms hmnd hmsn hopi2 Hopi2 Hv2 Hown2 Hok2 Hst2 d0 d1
              go_wp2_with fail
              obtain ⟨L2, hL2⟩ : ∃ L2, upd L kk 2 = L2 := ⟨_, rfl⟩
              obtain ⟨R2, hR2⟩ : ∃ R2, upd R kk ((k : Int) + 1) = R2 := ⟨_, rfl⟩
              have Hcur3 := Hcur2.out
              have Hdone3 := Hdone2.out
              have Hdk3 := Hdk2.out
              have Hopi4 := Hopi3.out
              rw [hL2] at Hcur3 Hdone3 Hdk3 Hopi4 hst5
              rw [hR2] at Hcur3 hst5
              have HC := Lib.hid Hcur3; have HD := Lib.hid Hdone3; have HK := Lib.hid Hdk3; have HO := Lib.hid Hopi4
              clear Hcur3 Hdone3 Hdk3 Hopi4 Hcur2 Hdone2 Hdk2 Hopi3 hL2 hR2 hund2
              go_loopw [12, 103] (fun v s wr => ∃ (u : Nat) (op : Nat → Int) (nx : List Int), u ≤ ms.length ∧ s = .int .i64 u ∧ OwnI wr B v nx ∧ OwnI wr B (.slice (some ⟨b, o, none⟩) q.length cq) q ∧ OwnI wr B (.slice (some ⟨b2, o2, none⟩) ks.length ck) ks ∧ OwnI wr B (.slice Am ms.length cm) ms ∧ Far v (.slice (some ⟨b, o, none⟩) q.length cq) ∧ Far v (.slice (some ⟨b2, o2, none⟩) ks.length ck) ∧ Far v (.slice Am ms.length cm) ∧ GB w n A l.length c g1 g2 g3 B L2 R2 op wr ∧ OpI n l L2 op nx (ms.drop u)) (fun _ s _ => ms.length - (intOf s).toNat)
              case atStart => exact ⟨0, op, nx, Nat.zero_le _, rfl, hv5, hown5, hok5, hom5, Hfar.out, Hfk.out, hfm, hst5, HO.out⟩
              case round =>
                clear hst5 hv5 hown5 hok5 hom5 Hfar Hfk hfm HO
                obtain ⟨u, op, nx, hu, rfl, hv1, hown, hok, hom, hfar, hfk, hfm, hst, hopi⟩ := hrel
                have Hv1 := Lib.hid hv1; have Hown := Lib.hid hown; have Hok := Lib.hid hok; have Hom := Lib.hid hom; have Hopi := Lib.hid hopi; have Hfar := Lib.hid hfar; have Hfk := Lib.hid hfk; have Hfm := Lib.hid hfm
                clear hv1 hown hok hom hopi hfar hfk hfm
                obtain ⟨Av, cv, rfl, _, _⟩ := Hv1.out.form
                by_cases hum : u < ms.length
                case neg =>
                  have hO := Hopi.out
                  rw [List.drop_of_length_le (by omega)] at hO
                  have HO := Lib.hid hO
                  clear hO
                  go_wp2_with fail
                  go_roundw
                  case rel => exact ⟨p + 1, L2, R2, op, nx, by omega, by go_num, Hv1.out, Hown.out, Hok.out, Hfar.out, Hfk.out, hst, HC.out, HO.out, HD.out, HK.out⟩
                  case measure => simp [intOf]; omega
                case pos =>
                obtain ⟨b3, o3, rfl, hc3⟩ := Hom.out.ri.at_ hum
                obtain ⟨jj, hjj, hjn⟩ := Hmsn.out _ (List.getElem_mem hum)
                have hO := Hopi.out
                have hnd : (ms.drop u).Nodup := Hmnd.out.sublist (List.drop_sublist _ _)
                rw [List.drop_eq_getElem_cons hum, hjj] at hO hnd
                rw [hjj] at hc3
                obtain ⟨hs1, hs2⟩ := op_step hjn hnd hO
                obtain ⟨ho1, ho2⟩ := hO.bnd hlen hjn
                have ho3 : 1 ≤ op jj := by
                  have := hO.cnt jj hjn
                  rw [if_pos (List.mem_cons_self ..)] at this
                  omega
                have hnl := hO.len
                have hj40 : jj < 40 := by omega
                have hoc := World.rowIs.cell hst.opn hj40
                have hof := World.rowIs.frozen hst.opn jj
                have hst1 := hst.setO jj (op jj - 1)
                have hoc1 := World.rowIs.cell hst1.opn hj40
                have hLc := hst1.lab.cell hjn
                have hb3 := hst.b3
                have hv2 := Hv1.out.farB (a := ⟨g3, jj, none⟩) hb3 (.int .i64 (op jj - 1))
                have hown2 := Hown.out.farB (a := ⟨g3, jj, none⟩) hb3 (.int .i64 (op jj - 1))
                have hok2 := Hok.out.farB (a := ⟨g3, jj, none⟩) hb3 (.int .i64 (op jj - 1))
                have hom2 := Hom.out.farB (a := ⟨g3, jj, none⟩) hb3 (.int .i64 (op jj - 1))
                rw [upd_same] at hoc1
                have Hs1 := Lib.hid hs1; have Hs2 := Lib.hid hs2; have Hst1 := Lib.hid hst1; have Hv2 := Lib.hid hv2; have Hown2 := Lib.hid hown2; have Hok2 := Lib.hid hok2; have Hom2 := Lib.hid hom2
                clear hs1 hs2 hst1 hv2 hown2 hok2 hom2 hO hnd hjj Hv1 Hown Hok Hom Hopi
                by_cases hz : op jj - 1 = 0
                case neg =>
                  have hd1 : (op jj - 1 == 0) = false := by simpa using hz
                  have hO := Hs2.out (fun h => hz h.1)
                  have HO := Lib.hid hO
                  clear hz hO
                  go_wp2_with fail
                  go_roundw
                  case rel => exact ⟨u + 1, _, nx, by omega, by go_num, Hv2.out, Hown2.out, Hok2.out, Hom2.out, Hfar.out, Hfk.out, Hfm.out, Hst1.out, HO.out⟩
                  case measure => simp [intOf]; omega
                case pos =>
                have hst1 := Hst1.out; have hv2 := Hv2.out; have hown2 := Hown2.out; have hok2 := Hok2.out; have hom2 := Hom2.out
                have hs1 := Hs1.out; have hs2 := Hs2.out
                rw [hz] at hst1 hv2 hown2 hok2 hom2 hs1 hs2 hoc1 hLc
                have Hz := Lib.hid hz
                have Hs1' := Lib.hid hs1; have Hs2' := Lib.hid hs2; have Hst1 := Lib.hid hst1; have Hv2 := Lib.hid hv2; have Hown2 := Lib.hid hown2; have Hok2 := Lib.hid hok2; have Hom2 := Lib.hid hom2
                clear hs1 hs2 hst1 hv2 hown2 hok2 hom2 hz Hs1 Hs2
                have hop1 : op jj = 1 := by have := Hz.out; omega
                clear Hz ho1 ho2 ho3
                rw [hop1] at hoc
                have Hop1 := Lib.hid hop1
                clear hop1
                by_cases hL3 : L2 jj = 3
                case neg =>
                  have hd2 : (L2 jj == 3) = false := by simpa using hL3
                  have hO := Hs2'.out (fun h => hL3 h.2)
                  have HO := Lib.hid hO
                  clear hO hL3
                  go_wp2_with fail
                  go_roundw
                  case rel => exact ⟨u + 1, _, nx, by omega, by go_num, Hv2.out, Hown2.out, Hok2.out, Hom2.out, Hfar.out, Hfk.out, Hfm.out, Hst1.out, HO.out⟩
                  case measure => simp [intOf]; omega
                case pos =>
                have hO := Hs1'.out ⟨rfl, hL3⟩
                rw [hL3] at hLc
                have HO := Lib.hid hO
                clear hO hL3
                go_wp2_with (at_builtin; go_loud (refine wpList_appI2 (by rfl) _ _ (by rfl) (wr.setCell ⟨g3, jj, none⟩ (.int .i64 0)) B _ nx (jj : Int) Hv2.out (by rfl) (by rfl) (by simp [World.setCell]) (by omega) Hst1.out.hB ?_); intro v' w6 hown' hb6 hg6 hloc)
                have hst6 := Hst1.out.append Hv2.out hg6 hb6
                have k1 := Hown2.out.keep hg6 Hfar.out
                have k2 := Hok2.out.keep hg6 Hfk.out
                have k3 := Hom2.out.keep hg6 Hfm.out
                have f1 := Hfar.out.appended Hown2.out hloc
                have f2 := Hfk.out.appended Hok2.out hloc
                have f3 := Hfm.out.appended Hom2.out hloc
                go_roundw
                case rel => exact ⟨u + 1, _, nx ++ [(jj : Int)], by omega, by go_num, hown', k1, k2, k3, f1, f2, f3, hst6, HO.out⟩
                case measure => simp [intOf]; omega
end Go.Proofs.YthkknlnfdckdfaaDoor

/- The reference of layer 12: build, Label, Ranks. -/
namespace Go.Proofs.YthkknlnfdckdfaaDoor
open Go.ChangeShapes Go.WideShapes Go.ChangeAt Go.RowKit

/-- a slice of the call's own that holds f at 0 .. n-1 -/
def OwnF (w : World) (b : Nat) (A : Option Addr) (c n : Nat) (f : Nat → Int) : Prop := OwnI w b (.slice A n c) (lst n f)
section
variable {w w' : World} {b : Nat} {A : Option Addr} {c n : Nat} {f : Nat → Int}
theorem OwnF.own (h : OwnF w b A c n f) : OwnI w b (.slice A (lst n f).length c) (lst n f) := by rw [lst_length]; exact h
theorem OwnF.of {l : List Int} (h : OwnI w b (.slice A n c) l) (e : l = lst n f) : OwnF w b A c n f := by subst e; exact h
theorem OwnF.pos (h : OwnF w b A c n f) (hn : 0 < n) : ∃ g, A = some ⟨g, 0, none⟩ ∧ b ≤ g ∧ g < w.heap.size ∧ ∀ i, w.frozen? ⟨g, i, none⟩ = false := h.own.pos (by rw [lst_length]; exact hn)
theorem OwnF.ri (h : OwnF w b A c n f) : RI w A (lst n f) := h.own.ri
theorem OwnF.below (h : OwnF w b A c n f) (hb : Below w.heap.size w w') : OwnF w' b A c n f := OwnI.below h hb
theorem OwnF.congr {f' : Nat → Int} (h : OwnF w b A c n f) (e : ∀ i, i < n → f i = f' i) : OwnF w b A c n f' := by unfold OwnF; rw [← lst_congr e]; exact h
theorem OwnF.far (h : OwnF w b A c n f) {a : Addr} (ha : (Value.slice A n c).ownBlock ≠ some a.block) (u : Value) : OwnF (w.setCell a u) b A c n f := OwnI.far h ha u
theorem OwnF.nil (h : OwnF w b A c n f) : A = none → lst n f = [] ∧ c = 0 := fun e => by
  obtain ⟨A', c', e', _, hn⟩ := OwnI.form2 h
  injection e' with e1 _ e3
  subst e1 e3
  exact hn e
end
theorem OwnF.cell {w : World} {b g c n : Nat} {f : Nat → Int} (h : OwnF w b (some ⟨g, 0, none⟩) c n f) {k : Nat} (hk : k < n) : w.cell? ⟨g, k, none⟩ = some (.int .i64 (f k)) := by
  have := h.own.cellAt (k := k) (by rw [lst_length]; exact hk)
  rw [lst_getD hk] at this; exact this
theorem OwnF.store {w : World} {b g c n : Nat} {f : Nat → Int} (h : OwnF w b (some ⟨g, 0, none⟩) c n f) {k : Nat} (hk : k < n) (x : Int) : OwnF (w.setCell ⟨g, k, none⟩ (.int .i64 x)) b (some ⟨g, 0, none⟩) c n (upd f k x) := by
  have := h.own.store (k := k) (by rw [lst_length]; exact hk) x
  rw [lst_set, lst_length] at this; exact this

/-- what the reference's build holds while it goes on -/
structure GC (w : World) (n : Nat) (A : Option Addr) (len c : Nat) (A1 : Option Addr) (c1 : Nat) (A2 : Option Addr) (c2 : Nat) (L R : Nat → Int) (wr : World) : Prop where
  box : Blk wr w.heap.size 27 #[.int .i64 (n : Int), .slice A len c]
  lab : OwnF wr (w.heap.size + 1) A1 c1 n L
  rnk : OwnF wr (w.heap.size + 1) A2 c2 n R
  apt : Far (.slice A1 n c1) (.slice A2 n c2)
  bel : Below w.heap.size w wr
section
variable {w : World} {n : Nat} {A : Option Addr} {len c : Nat} {A1 : Option Addr} {c1 : Nat} {A2 : Option Addr} {c2 : Nat} {L R : Nat → Int} {wr w' : World}
theorem GC.below (h : GC w n A len c A1 c1 A2 c2 L R wr) (hb : Below wr.heap.size wr w') : GC w n A len c A1 c1 A2 c2 L R w' :=
  { h with box := h.box.below hb h.box.lt, lab := h.lab.below hb, rnk := h.rnk.below hb, bel := h.bel.trans (hb.mono h.bel.size) }
theorem GC.setL {g1 : Nat} (h : GC w n A len c (some ⟨g1, 0, none⟩) c1 A2 c2 L R wr) {i : Nat} (hi : i < n) (x : Int) : GC w n A len c (some ⟨g1, 0, none⟩) c1 A2 c2 (upd L i x) R (wr.setCell ⟨g1, i, none⟩ (.int .i64 x)) := by
  have hg := OwnI.block h.lab g1 rfl
  exact { h with box := h.box.far (p := ⟨g1, i, none⟩) (by show w.heap.size ≠ g1; omega) _, lab := h.lab.store hi x, rnk := h.rnk.far (a := ⟨g1, i, none⟩) (fun e => h.apt g1 rfl e) _, bel := h.bel.setCell (p := ⟨g1, i, none⟩) (by show w.heap.size ≤ g1; omega) _ }
theorem GC.setR {g2 : Nat} (h : GC w n A len c A1 c1 (some ⟨g2, 0, none⟩) c2 L R wr) {i : Nat} (hi : i < n) (x : Int) : GC w n A len c A1 c1 (some ⟨g2, 0, none⟩) c2 L (upd R i x) (wr.setCell ⟨g2, i, none⟩ (.int .i64 x)) := by
  have hg := OwnI.block h.rnk g2 rfl
  exact { h with box := h.box.far (p := ⟨g2, i, none⟩) (by show w.heap.size ≠ g2; omega) _, rnk := h.rnk.store hi x, lab := h.lab.far (a := ⟨g2, i, none⟩) (fun e => h.apt g2 e rfl) _, bel := h.bel.setCell (p := ⟨g2, i, none⟩) (by show w.heap.size ≤ g2; omega) _ }
theorem GC.congr {L' R' : Nat → Int} (h : GC w n A len c A1 c1 A2 c2 L R wr) (e : ∀ i, i < n → L i = L' i) (e' : ∀ i, i < n → R i = R' i) : GC w n A len c A1 c1 A2 c2 L' R' wr :=
  { h with lab := h.lab.congr e, rnk := h.rnk.congr e' }
end

/-- the end of a round -/
theorem round_endL {n : Nat} {l : List (Int × Int)} (hv : Vld n l) {L0 R0 L R : Nat → Int} {q : List Int} {r : Int} (hq : QueI n l L0 q) (hc : CurI l (midL n l L0) (midR n l L0 r R0) r q L R)
    (hd : ∀ x ∈ q, ∀ j : Nat, (x, (j : Int)) ∈ l → L j ≠ 3) : L = nxL n l L0 ∧ R = nxR n l L0 r R0 := by
  have key : ∀ i, L i = nxL n l L0 i ∧ R i = nxR n l L0 r R0 i := fun i => by
    rcases hc i with ⟨h1, h2⟩ | ⟨h1, h2, h3, x, hx, hxi⟩
    · cases hf : frB n l L0 i
      · cases hh : gHitB n l L0 i
        · simp [nxL, nxR, midL, midR, hf, hh] at h1 h2 ⊢; exact ⟨h1, h2⟩
        · exfalso
          obtain ⟨h3, _, a, ha, hfa⟩ := (gHitB_iff hv.1).1 hh
          have h4 := hd (a : Int) ((hq _).2 ⟨a, rfl, hfa⟩) i ha
          rw [h1] at h4
          simp [midL, hf] at h4
          exact h4 h3
      · simp [nxL, nxR, midL, midR, hf] at h1 h2 ⊢; exact ⟨h1, h2⟩
    · obtain ⟨a, rfl, _, hfa⟩ := hq.nat hx
      have hnf := not_free_of_free hv.1 hfa hxi
      have hL3 : L0 i = 3 := by simpa [midL, hnf] using h1
      have hh : gHitB n l L0 i = true := (gHitB_iff hv.1).2 ⟨hL3, hnf, a, hxi, hfa⟩
      simp [nxL, nxR, hnf, hh, h2, h3]
  exact ⟨funext fun i => (key i).1, funext fun i => (key i).2⟩
/-- the nodes that become In, as a list -/
def queL (n : Nat) (l : List (Int × Int)) (L : Nat → Int) : List Int := nodesB n (frB n l L)
theorem queL_que (n : Nat) (l : List (Int × Int)) (L : Nat → Int) : QueI n l L (queL n l L) := fun x => by
  unfold queL
  rw [mem_nodesB]
  constructor
  · rintro ⟨j, _, hj, rfl⟩; exact ⟨j, rfl, hj⟩
  · rintro ⟨j, rfl, hj⟩
    refine ⟨j, ?_, hj, rfl⟩
    unfold frB at hj
    simp only [Bool.and_eq_true, decide_eq_true_eq] at hj
    exact hj.1.1
/-- what the test of the second loop asks -/
theorem cur_test {n : Nat} {l : List (Int × Int)} {L0 R0 L R : Nat → Int} {r : Int} (hR0 : ∀ i, R0 i < r) (hc : CurI l (midL n l L0) (midR n l L0 r R0) r (queL n l L0) L R) (k : Nat) :
    (L k = 1 ∧ R k = r) ↔ (k : Int) ∈ queL n l L0 := by
  have hq := queL_que n l L0
  constructor
  · rintro ⟨h1, h2⟩
    rcases hc k with ⟨e1, e2⟩ | ⟨_, e1, _⟩
    · cases hf : frB n l L0 k
      · have := hR0 k
        simp [midR, hf] at e2
        omega
      · exact (hq _).2 ⟨k, rfl, hf⟩
    · omega
  · intro h
    obtain ⟨j, e, _, hf⟩ := hq.nat h
    have : k = j := by omega
    subst this
    have m1 : midL n l L0 k = 1 := by simp [midL, hf]
    have m2 : midR n l L0 r R0 k = r := by simp [midR, hf]
    rcases hc k with ⟨e1, e2⟩ | ⟨e1, _⟩
    · exact ⟨by omega, by omega⟩
    · omega
theorem cur_set {l : List (Int × Int)} {M MR L R : Nat → Int} {r : Int} {q : List Int} (hc : CurI l M MR r q L R) {x : Int} (hx : x ∈ q) {j : Nat} (hxj : (x, (j : Int)) ∈ l) (h3 : L j = 3) : CurI l M MR r q (upd L j 2) (upd R j r) := fun i => by
  by_cases e : i = j
  · subst e
    refine .inr ⟨?_, upd_same _ _ _, upd_same _ _ _, x, hx, hxj⟩
    rcases hc i with ⟨h, _⟩ | ⟨h, _⟩ <;> omega
  · rw [upd_ne e, upd_ne e]; exact hc i

/-- some node below j becomes In -/
def chB (n : Nat) (l : List (Int × Int)) (L : Nat → Int) (j : Nat) : Bool := (List.range j).any (frB n l L)
theorem chB_succ (n : Nat) (l : List (Int × Int)) (L : Nat → Int) (j : Nat) : chB n l L (j + 1) = (chB n l L j || frB n l L j) := by
  unfold chB
  rw [List.range_succ, List.any_append]; simp
theorem chB_rest {n : Nat} {l : List (Int × Int)} {L : Nat → Int} (h : chB n l L n = false) : restB n l L := fun i hi => by
  unfold chB at h
  rw [List.any_eq_false] at h
  have := h i (List.mem_range.2 hi)
  simpa using this
theorem chB_some {n : Nat} {l : List (Int × Int)} {L : Nat → Int} (h : chB n l L n = true) : ¬ restB n l L := fun hr => by
  unfold chB at h
  rw [List.any_eq_true] at h
  obtain ⟨i, hi, hf⟩ := h
  rw [hr i (List.mem_range.1 hi)] at hf; cases hf
/-- the first loop of a round, the first j nodes done -/
def preL (n : Nat) (l : List (Int × Int)) (L : Nat → Int) (x : Int) (F : Nat → Int) (j : Nat) : Nat → Int := fun i => if i < j ∧ frB n l L i = true then x else F i
theorem preL_hit {n : Nat} {l : List (Int × Int)} {L : Nat → Int} {x : Int} {F : Nat → Int} {j : Nat} (h : frB n l L j = true) : preL n l L x F (j + 1) = upd (preL n l L x F j) j x := by
  funext i
  unfold preL upd
  by_cases e : i = j
  · subst e; simp [h]
  · rw [if_neg e]
    have : (i < j + 1 ∧ frB n l L i = true) ↔ (i < j ∧ frB n l L i = true) := ⟨fun h => ⟨by omega, h.2⟩, fun h => ⟨by omega, h.2⟩⟩
    simp only [this]
theorem preL_miss {n : Nat} {l : List (Int × Int)} {L : Nat → Int} {x : Int} {F : Nat → Int} {j : Nat} (h : frB n l L j = false) : preL n l L x F (j + 1) = preL n l L x F j := by
  funext i
  unfold preL
  have : (i < j + 1 ∧ frB n l L i = true) ↔ (i < j ∧ frB n l L i = true) := ⟨fun h' => ⟨by
    rcases Nat.lt_or_ge i j with hlt | hge
    · exact hlt
    · have : i = j := by omega
      subst this; rw [h] at h'; exact absurd h'.2 (by simp), h'.2⟩, fun h => ⟨by omega, h.2⟩⟩
  simp only [this]
/-- node i is free as far as the first attackers go -/
def frS (l : List (Int × Int)) (L : Nat → Int) (i s : Nat) : Bool := (L i == 3) && ((attackersL l i).take s).all fun a => L a.toNat == 2
theorem frS_zero (l : List (Int × Int)) (L : Nat → Int) (i : Nat) : frS l L i 0 = (L i == 3) := by simp [frS]
theorem frS_succ {l : List (Int × Int)} {L : Nat → Int} {i s : Nat} (h : s < (attackersL l i).length) {a : Nat} (ha : (attackersL l i)[s] = (a : Int)) : frS l L i (s + 1) = (frS l L i s && (L a == 2)) := by
  unfold frS
  rw [List.take_succ_eq_append_getElem h, List.all_append, ha, ← Bool.and_assoc]
  simp
theorem frS_all {n : Nat} {l : List (Int × Int)} {L : Nat → Int} {i s : Nat} (hi : i < n) (h : ¬ s < (attackersL l i).length) : frS l L i s = frB n l L i := by
  unfold frS frB
  rw [List.take_of_length_le (by omega)]
  simp [hi]

theorem preL_full (n : Nat) (l : List (Int × Int)) (L : Nat → Int) (x : Int) (F : Nat → Int) : preL n l L x F n = fun i => if frB n l L i then x else F i := by
  funext i
  unfold preL
  have : (i < n ∧ frB n l L i = true) ↔ frB n l L i = true := ⟨fun h => h.2, fun h => ⟨by
    have := h; unfold frB at this; simp only [Bool.and_eq_true, decide_eq_true_eq] at this; exact this.1.1, h⟩⟩
  simp only [this]

/-- the call returns two new slices that hold n numbers -/
def RetLL (n : Nat) (f f' : Nat → Int) (w : World) : Ending → World → Prop := fun e w' => ∃ A c A' c', e = .returned (.tuple #[.slice A n c, .slice A' n c']) ∧ OwnF w' w.heap.size A c n f ∧ OwnF w' w.heap.size A' c' n f' ∧ Below w.heap.size w w'

end Go.Proofs.YthkknlnfdckdfaaDoor

/- Label and Ranks, of the program and of the reference; the sanity check of layer 12. -/
namespace Go.Proofs.YthkknlnfdckdfaaDoor
open Go.ChangeShapes Go.WideShapes Go.ChangeAt Go.RowKit

theorem RetI.lst {w w' : World} {n : Nat} {f : Nat → Int} {A : Option Addr} {c : Nat} (h : OwnI w' w.heap.size (.slice A n c) (lst n f)) (hb : Below w.heap.size w w') : RetI (lst n f) w (.returned (.slice A n c)) w' := RetI.mk h hb

set_option maxHeartbeats 1000000 in
theorem gLabel_any (A : Option Addr) (n : Nat) (l : List (Int × Int)) (c : Nat) (w : World) (hr : RP w A l) (hv : Vld n l) (hT : Tab w) :
    Calls Tryd.prog 6 #[.agg #[.int .i64 (n : Int), .slice A l.length c]] w (RetI (lst n (grL n l)) w) := by
  have hn := hv.1.1
  go_enter Tryd.func6, Tryd.ntmps6
  go_wp2_with fail
  obtain ⟨W0, hW, c0, c1, hb0, hlt0⟩ := boxed w 27 (.int .i64 (n : Int)) (.slice A l.length c)
  rw [hW]
  refine (gbuild_any A n l c W0 (hr.below hb0) hv (hT.below hb0)).mono ?_
  rintro e w1 ⟨g, g', rfl, h1, h2, hrow, hrow', hb⟩
  go_wp2_with fail
  go_ret
  first
    | exact RetI.lst (Row.own hrow (by omega) (by omega)) (endB hb0 hb)
    | exact RetI.lst (Row.own hrow' (by omega) (by omega)) (endB hb0 hb)

theorem chain_vld : Vld 3 chainG := ⟨chain_in, by decide⟩
theorem gr_chain : lst 3 (grL 3 chainG) = [1, 2, 1] := by decide
theorem rk_chain : lst 3 (grR 3 chainG) = [1, 1, 2] := by decide

theorem new_ri3 (w : World) (t : TypeId) (a b c : Int) : RI (w.alloc (.cells #[.int .i64 a, .int .i64 b, .int .i64 c] t)) (some ⟨w.heap.size, 0, none⟩) [a, b, c] := by
  intro k hk
  refine ⟨w.heap.size, 0, rfl, ?_⟩
  rw [(Blk.new w t #[.int .i64 a, .int .i64 b, .int .i64 c]).cell]
  match k, hk with
  | 0, _ => rfl
  | 1, _ => rfl
  | 2, _ => rfl

theorem boxed42 (w : World) (t u : TypeId) (x1 x2 x3 x4 y1 y2 : Value) : ∃ W0, (w.alloc (.cells #[x1, x2, x3, x4] t)).alloc (.cells #[y1, y2] u) = W0 ∧ Blk W0 w.heap.size t #[x1, x2, x3, x4] ∧ Blk W0 (w.heap.size + 1) u #[y1, y2] ∧ Below w.heap.size w W0 := by
  refine ⟨_, rfl, (Blk.new w t _).alloc _, ?_, ((Below.refl _ _).alloc (Nat.le_refl _) _).alloc (by simp) _⟩
  have := Blk.new (w.alloc (.cells #[x1, x2, x3, x4] t)) u #[y1, y2]
  simpa using this

end Go.Proofs.YthkknlnfdckdfaaDoor
