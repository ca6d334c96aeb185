/- The generators of keep: Graph and Part. -/
import Derived.Test.YtiljbfeipfdmdaaDoorRef10
namespace Go.Proofs.YtiljbfeipfdmdaaDoor
open Go.ChangeShapes Go.WideShapes Go.ChangeAt Go.RowKit

/-- a valid graph of n nodes -/
def Vld (n : Nat) (l : List (Int × Int)) : Prop := InR n l ∧ l.Pairwise ltP
theorem scanV_zero {N : Int} : ∀ (l : List (Int × Int)) (o : Option (Int × Int)), (∀ p ∈ l, okP N p) → l.Pairwise ltP → (∀ q, o = some q → ∀ p ∈ l, ltP q p) → scanV N o l = 0
  | [], o, _, _, _ => by cases o <;> rfl
  | p :: l, none, h1, h2, _ => by
    rw [scanV, if_pos (h1 p (List.mem_cons_self ..))]
    exact scanV_zero l _ (fun q hq => h1 q (List.mem_cons_of_mem _ hq)) (List.pairwise_cons.1 h2).2 (fun q hq r hr => by injection hq with hq; subst hq; exact (List.pairwise_cons.1 h2).1 r hr)
  | p :: l, some q, h1, h2, h3 => by
    rw [scanV, if_pos (h1 p (List.mem_cons_self ..)), if_pos (h3 q rfl p (List.mem_cons_self ..))]
    exact scanV_zero l _ (fun q hq => h1 q (List.mem_cons_of_mem _ hq)) (List.pairwise_cons.1 h2).2 (fun q hq r hr => by injection hq with hq; subst hq; exact (List.pairwise_cons.1 h2).1 r hr)
theorem Vld.valE {n : Nat} {l : List (Int × Int)} (h : Vld n l) : valE n l = 0 := by
  have hn := h.1.1
  unfold Proofs.YtiljbfeipfdmdaaDoor.valE
  rw [if_neg (by omega)]
  exact scanV_zero l none (fun p hp => by have := h.1.2.2 p hp; unfold okP; omega) h.2 (fun q hq => by cases hq)

theorem ownsRow_far {w w' : World} {base : Nat} {e : TypeId} {size n : Nat} {v : Value} {xs : List Value} {p : Nat} (h : w.ownsRow base e size v n xs) (hg : w.grownBy w' (some p)) (hp : p < base) : w'.ownsRow base e size v n xs :=
  h.kept hg (by
    cases hv : v.ownBlock with
    | none => exact .inl rfl
    | some k => exact .inr (fun he => by injection he with he; have := (h.lt k hv).1; omega))
theorem SrcOk.append {w w' : World} {p : Nat} {v : Value} {base : Nat} {e : TypeId} {size n : Nat} {xs : List Value} (h : SrcOk w p) (ho : w.ownsRow base e size v n xs) (hg : w.grownBy w' v.ownBlock) (hp : p < base) : SrcOk w' p :=
  h.other hg (fun k hk => by have := (ho.lt k hk).1; omega)
theorem Blk.append {w w' : World} {g : Nat} {t : TypeId} {cs : Array Value} {v : Value} {base : Nat} {e : TypeId} {size n : Nat} {xs : List Value} (h : Blk w g t cs) (ho : w.ownsRow base e size v n xs) (hg : w.grownBy w' v.ownBlock) (hp : g < base) : Blk w' g t cs :=
  h.grown hg (fun he => by have := (ho.lt g he.symm).1; omega)

/-- what a part of a call may have done: new blocks, writes to block p and to blocks from base on -/
structure Near (p base : Nat) (w w' : World) : Prop where
  os : w'.os = w.os
  tape : w'.tape = w.tape
  output : w'.output = w.output
  size : w.heap.size ≤ w'.heap.size
  block : ∀ k, k < base → k ≠ p → w'.heap[k]? = w.heap[k]?
theorem Near.refl (p base : Nat) (w : World) : Near p base w w := ⟨rfl, rfl, rfl, Nat.le_refl _, fun _ _ _ => rfl⟩
theorem Near.trans {p base : Nat} {a b c : World} (h : Near p base a b) (k : Near p base b c) : Near p base a c :=
  ⟨k.os.trans h.os, k.tape.trans h.tape, k.output.trans h.output, Nat.le_trans h.size k.size, fun i hi hn => (k.block i hi hn).trans (h.block i hi hn)⟩
theorem Near.of_grown {p base : Nat} {a b : World} (h : a.grownBy b (some p)) (hb : base ≤ a.heap.size) : Near p base a b :=
  ⟨h.os, h.tape, h.output, h.size, fun i hi hn => h.block i (by omega) (fun e => hn (by injection e))⟩
theorem Near.of_below {p base : Nat} {a b : World} (h : Below base a b) : Near p base a b := ⟨h.os, h.tape, h.output, h.size, fun i hi _ => h.block i hi⟩
theorem Near.setCell {p base : Nat} {a w : World} (h : Near p base a w) {q : Addr} (hq : base ≤ q.block) (u : Value) : Near p base a (w.setCell q u) :=
  h.trans (Near.of_below ((Below.refl base w).setCell hq u))
theorem Near.grown {p : Nat} {w w' : World} (h : Near p w.heap.size w w') : w.grownBy w' (some p) := ⟨h.os, h.tape, h.output, h.size, fun k hk hne => h.block k hk (fun e => hne (by rw [e]))⟩

/-- the call returns a valid graph of at most n nodes; the reader has gone on -/
def RetGr (p n : Nat) (w : World) : Ending → World → Prop := fun e w' => ∃ (N : Nat) (l : List (Int × Int)) (A : Option Addr) (c : Nat), e = .returned (.agg #[.int .i64 (N : Int), .slice A l.length c]) ∧ N ≤ n ∧ Vld N l ∧ RP w' A l ∧
  (∀ b o, A = some ⟨b, o, none⟩ → w.heap.size ≤ b) ∧ SrcOk w' p ∧ w.grownBy w' (some p)

def before (f t : Nat) (l : List (Int × Int)) : Prop := ∀ q ∈ l, ltP q ((f : Int), (t : Int))
theorem before_snoc {f t : Nat} {l : List (Int × Int)} (h : before f t l) : before f (t + 1) (l ++ [((f : Int), (t : Int))]) := by
  intro q hq
  rcases List.mem_append.1 hq with hq | hq
  · have := h q hq; unfold ltP at *; simp at *; omega
  · rw [List.mem_singleton] at hq; subst hq; unfold ltP; simp; omega
theorem before_next {f t : Nat} {l : List (Int × Int)} (h : before f t l) : before f (t + 1) l := by
  intro q hq
  have := h q hq; unfold ltP at *; simp at *; omega
theorem before_row {f N : Nat} {l : List (Int × Int)} (h : before f N l) (hr : ∀ p ∈ l, 0 ≤ p.1 ∧ p.1 < N ∧ 0 ≤ p.2 ∧ p.2 < N) : before (f + 1) 0 l := by
  intro q hq
  have := h q hq; have := hr q hq; unfold ltP at *; simp at *; omega

/-- the state of the generator's loops -/
structure GenSt (p G R base N f t : Nat) (l : List (Int × Int)) (W wr : World) : Prop where
  src : SrcOk wr p
  near : Near p W.heap.size W wr
  res : Blk wr R 27 #[.int .i64 0, .slice none 0 0]
  bef : before f t l
  srt : l.Pairwise ltP
  rng : ∀ q ∈ l, 0 ≤ q.1 ∧ q.1 < N ∧ 0 ≤ q.2 ∧ q.2 < N
  len : l.length ≤ f * 40 + t
  hG : G < base
  hR : R < base
  hRG : R ≠ G
  hp : p < base
  hpG : p ≠ G
  hpR : p ≠ R
  hb : base ≤ wr.heap.size
  hpW : p < W.heap.size
  hWb : W.heap.size ≤ R
  hWG : W.heap.size ≤ G

/-- behind a read of a number -/
theorem GenSt.read {p G R base N f t : Nat} {l : List (Int × Int)} {W wr w' : World} (h : GenSt p G R base N f t l W wr) (hs : SrcOk w' p) (hg : wr.grownBy w' (some p)) : GenSt p G R base N f t l W w' :=
  { h with src := hs, near := h.near.trans (Near.of_grown hg h.near.size), res := h.res.grown hg (fun e => by injection e with e; exact h.hpR e.symm), hb := Nat.le_trans h.hb hg.size }
/-- behind an append, and the store into the variable g -/
theorem GenSt.add {p G R base N f t : Nat} {l : List (Int × Int)} {W wr w' : World} {v : Value} {e : TypeId} {size n : Nat} {xs : List Value} (h : GenSt p G R base N f t l W wr) (ho : wr.ownsRow base e size v n xs) (hg : wr.grownBy w' v.ownBlock) (hbl : Below base wr w')
    (hf : f < N) (ht : t < N) (u : Value) : GenSt p G R base N f (t + 1) (l ++ [((f : Int), (t : Int))]) W (w'.setCell ⟨G, 1, none⟩ u) :=
  { h with
    src := (h.src.append ho hg h.hp).other (grownBy_setCell w' G 1 u) (fun k hk => by injection hk with hk; have := h.hpW; have := h.hWG; omega)
    near := (h.near.trans (Near.of_below (hbl.mono (by have := h.hG; have := h.hWG; omega)))).setCell (by exact h.hWG) u
    res := (h.res.append ho hg h.hR).far (p := ⟨G, 1, none⟩) h.hRG u
    bef := before_snoc h.bef
    srt := List.pairwise_append.2 ⟨h.srt, List.pairwise_singleton .., fun a ha b hb => by rw [List.mem_singleton] at hb; subst hb; exact h.bef a ha⟩
    rng := fun q hq => by
      rcases List.mem_append.1 hq with hq | hq
      · exact h.rng q hq
      · rw [List.mem_singleton] at hq; subst hq; simp; omega
    len := by have := h.len; simp; omega
    hb := by have := hbl.size; have := h.hb; simp [World.setCell]; omega }
theorem GenSt.next {p G R base N f t : Nat} {l : List (Int × Int)} {W wr : World} (h : GenSt p G R base N f t l W wr) : GenSt p G R base N f (t + 1) l W wr :=
  { h with bef := before_next h.bef, len := by have := h.len; omega }
theorem GenSt.row {p G R base N f : Nat} {l : List (Int × Int)} {W wr : World} (h : GenSt p G R base N f N l W wr) (hN : N ≤ 40) : GenSt p G R base N (f + 1) 0 l W wr :=
  { h with bef := before_row h.bef h.rng, len := by have := h.len; omega }
theorem GenSt.ends {p G R base N f : Nat} {l : List (Int × Int)} {W wr : World} (h : GenSt p G R base N f 0 l W wr) (hN : N ≤ 40) (hf : f ≤ N) (x y : Value) : Vld N l ∧ SrcOk ((wr.setCell ⟨R, 0, none⟩ x).setCell ⟨R, 1, none⟩ y) p ∧ W.grownBy ((wr.setCell ⟨R, 0, none⟩ x).setCell ⟨R, 1, none⟩ y) (some p) :=
  ⟨⟨⟨hN, by have := h.len; omega, h.rng⟩, h.srt⟩, (h.src.other (grownBy_setCell wr R 0 x) (fun k hk => by injection hk with hk; have := h.hpW; have := h.hWb; omega)).other (grownBy_setCell _ R 1 y) (fun k hk => by injection hk with hk; have := h.hpW; have := h.hWb; omega),
    ((h.near.setCell (q := ⟨R, 0, none⟩) h.hWb x).setCell (q := ⟨R, 1, none⟩) h.hWb y).grown⟩
end Go.Proofs.YtiljbfeipfdmdaaDoor
