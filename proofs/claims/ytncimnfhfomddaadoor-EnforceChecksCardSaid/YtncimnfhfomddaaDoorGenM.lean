import Derived.Test.YtncimnfhfomddaaDoorRef10
import Derived.Test.YtncimnfhfomddaaDoorP12
import Derived.Laws.AppendOwnNone
import Derived.Test.YtncimnfhfomddaaDoorRef13
import Derived.Test.YtncimnfhfomddaaDoorTxtX
/- The generators of keep: Graph and Part. -/
namespace Go.Proofs.YtncimnfhfomddaaDoor
open Go.ChangeShapes Go.WideShapes Go.ChangeAt Go.RowKit

/-- a valid graph of n nodes -/
def Vld (n : Nat) (l : List (Int × Int)) : Prop := InR n l ∧ l.Pairwise ltP
theorem scanV_zero {N : Int} : ∀ (l : List (Int × Int)) (o : Option (Int × Int)), (∀ p ∈ l, okP N p) → l.Pairwise ltP → (∀ q, o = some q → ∀ p ∈ l, ltP q p) → scanV N o l = 0
  | [], o, _, _, _ => by cases o <;> rfl
  | p :: l, none, h1, h2, _ => by
    rw [scanV, if_pos (h1 p (List.mem_cons_self ..))]
    exact scanV_zero l _ (fun q hq => h1 q (List.mem_cons_of_mem _ hq)) (List.pairwise_cons.1 h2).2 (fun q hq r hr => by injection hq with hq; subst hq; exact (List.pairwise_cons.1 h2).1 r hr)
  | p :: l, some q, h1, h2, h3 => by
    rw [scanV, if_pos (h1 p (List.mem_cons_self ..)), if_pos (h3 q rfl p (List.mem_cons_self ..))]
    exact scanV_zero l _ (fun q hq => h1 q (List.mem_cons_of_mem _ hq)) (List.pairwise_cons.1 h2).2 (fun q hq r hr => by injection hq with hq; subst hq; exact (List.pairwise_cons.1 h2).1 r hr)
theorem Vld.valE {n : Nat} {l : List (Int × Int)} (h : Vld n l) : valE n l = 0 := by
  have hn := h.1.1
  unfold Proofs.YtncimnfhfomddaaDoor.valE
  rw [if_neg (by omega)]
  exact scanV_zero l none (fun p hp => by have := h.1.2.2 p hp; unfold okP; omega) h.2 (fun q hq => by cases hq)

theorem ownsRow_far {w w' : World} {base : Nat} {e : TypeId} {size n : Nat} {v : Value} {xs : List Value} {p : Nat} (h : w.ownsRow base e size v n xs) (hg : w.grownBy w' (some p)) (hp : p < base) : w'.ownsRow base e size v n xs :=
  h.kept hg (by
    cases hv : v.ownBlock with
    | none => exact .inl rfl
    | some k => exact .inr (fun he => by injection he with he; have := (h.lt k hv).1; omega))
theorem SrcOk.append {w w' : World} {p : Nat} {v : Value} {base : Nat} {e : TypeId} {size n : Nat} {xs : List Value} (h : SrcOk w p) (ho : w.ownsRow base e size v n xs) (hg : w.grownBy w' v.ownBlock) (hp : p < base) : SrcOk w' p :=
  h.other hg (fun k hk => by have := (ho.lt k hk).1; omega)
theorem Blk.append {w w' : World} {g : Nat} {t : TypeId} {cs : Array Value} {v : Value} {base : Nat} {e : TypeId} {size n : Nat} {xs : List Value} (h : Blk w g t cs) (ho : w.ownsRow base e size v n xs) (hg : w.grownBy w' v.ownBlock) (hp : g < base) : Blk w' g t cs :=
  h.grown hg (fun he => by have := (ho.lt g he.symm).1; omega)

/-- what a part of a call may have done: new blocks, writes to block p and to blocks from base on -/
structure Near (p base : Nat) (w w' : World) : Prop where
  os : w'.os = w.os
  tape : w'.tape = w.tape
  output : w'.output = w.output
  size : w.heap.size ≤ w'.heap.size
  block : ∀ k, k < base → k ≠ p → w'.heap[k]? = w.heap[k]?
theorem Near.refl (p base : Nat) (w : World) : Near p base w w := ⟨rfl, rfl, rfl, Nat.le_refl _, fun _ _ _ => rfl⟩
theorem Near.trans {p base : Nat} {a b c : World} (h : Near p base a b) (k : Near p base b c) : Near p base a c :=
  ⟨k.os.trans h.os, k.tape.trans h.tape, k.output.trans h.output, Nat.le_trans h.size k.size, fun i hi hn => (k.block i hi hn).trans (h.block i hi hn)⟩
theorem Near.of_grown {p base : Nat} {a b : World} (h : a.grownBy b (some p)) (hb : base ≤ a.heap.size) : Near p base a b :=
  ⟨h.os, h.tape, h.output, h.size, fun i hi hn => h.block i (by omega) (fun e => hn (by injection e))⟩
theorem Near.of_below {p base : Nat} {a b : World} (h : Below base a b) : Near p base a b := ⟨h.os, h.tape, h.output, h.size, fun i hi _ => h.block i hi⟩
theorem Near.setCell {p base : Nat} {a w : World} (h : Near p base a w) {q : Addr} (hq : base ≤ q.block) (u : Value) : Near p base a (w.setCell q u) :=
  h.trans (Near.of_below ((Below.refl base w).setCell hq u))
theorem Near.grown {p : Nat} {w w' : World} (h : Near p w.heap.size w w') : w.grownBy w' (some p) := ⟨h.os, h.tape, h.output, h.size, fun k hk hne => h.block k hk (fun e => hne (by rw [e]))⟩

/-- the call returns a valid graph of at most n nodes; the reader has gone on -/
def RetGr (p n : Nat) (w : World) : Ending → World → Prop := fun e w' => ∃ (N : Nat) (l : List (Int × Int)) (A : Option Addr) (c : Nat), e = .returned (.agg #[.int .i64 (N : Int), .slice A l.length c]) ∧ N ≤ n ∧ Vld N l ∧ RP w' A l ∧
  (∀ b o, A = some ⟨b, o, none⟩ → w.heap.size ≤ b) ∧ SrcOk w' p ∧ w.grownBy w' (some p)

/-- .. the same, and a graph without pairs in no block has no room -/
def RetGr2 (p n : Nat) (w : World) : Ending → World → Prop := fun e w' => ∃ (N : Nat) (l : List (Int × Int)) (A : Option Addr) (c : Nat), e = .returned (.agg #[.int .i64 (N : Int), .slice A l.length c]) ∧ N ≤ n ∧ Vld N l ∧ RP w' A l ∧
  (∀ b o, A = some ⟨b, o, none⟩ → w.heap.size ≤ b) ∧ SrcOk w' p ∧ w.grownBy w' (some p) ∧ (A = none → l = [] ∧ c = 0)
theorem RetGr2.old {p n : Nat} {w w' : World} {e : Ending} (h : RetGr2 p n w e w') : RetGr p n w e w' := by
  obtain ⟨N, l, A, c, h1, h2, h3, h4, h5, h6, h7, _⟩ := h
  exact ⟨N, l, A, c, h1, h2, h3, h4, h5, h6, h7⟩
theorem OwnP.form2 {w : World} {b : Nat} {v : Value} {l : List (Int × Int)} (h : OwnP w b v l) : ∃ A c, v = .slice A l.length c ∧ RP w A l ∧ (A = none → l = [] ∧ c = 0) := by
  obtain ⟨A, c, e, hr, hA⟩ := h.form
  refine ⟨A, c, e, hr, fun hn => ⟨hA hn, ?_⟩⟩
  obtain ⟨_, h2⟩ := h
  rcases h2 with ⟨e2, _⟩ | ⟨g, cap, cur, e2, _⟩
  · rw [e] at e2; injection e2
  · rw [e, hn] at e2; injection e2 with e3; cases e3

def before (f t : Nat) (l : List (Int × Int)) : Prop := ∀ q ∈ l, ltP q ((f : Int), (t : Int))
theorem before_snoc {f t : Nat} {l : List (Int × Int)} (h : before f t l) : before f (t + 1) (l ++ [((f : Int), (t : Int))]) := by
  intro q hq
  rcases List.mem_append.1 hq with hq | hq
  · have := h q hq; unfold ltP at *; simp at *; omega
  · rw [List.mem_singleton] at hq; subst hq; unfold ltP; simp; omega
theorem before_next {f t : Nat} {l : List (Int × Int)} (h : before f t l) : before f (t + 1) l := by
  intro q hq
  have := h q hq; unfold ltP at *; simp at *; omega
theorem before_row {f N : Nat} {l : List (Int × Int)} (h : before f N l) (hr : ∀ p ∈ l, 0 ≤ p.1 ∧ p.1 < N ∧ 0 ≤ p.2 ∧ p.2 < N) : before (f + 1) 0 l := by
  intro q hq
  have := h q hq; have := hr q hq; unfold ltP at *; simp at *; omega

/-- the state of the generator's loops -/
structure GenSt (p G R base N f t : Nat) (l : List (Int × Int)) (W wr : World) : Prop where
  src : SrcOk wr p
  near : Near p W.heap.size W wr
  res : Blk wr R 24 #[.int .i64 0, .slice none 0 0]
  bef : before f t l
  srt : l.Pairwise ltP
  rng : ∀ q ∈ l, 0 ≤ q.1 ∧ q.1 < N ∧ 0 ≤ q.2 ∧ q.2 < N
  len : l.length ≤ f * 40 + t
  hG : G < base
  hR : R < base
  hRG : R ≠ G
  hp : p < base
  hpG : p ≠ G
  hpR : p ≠ R
  hb : base ≤ wr.heap.size
  hpW : p < W.heap.size
  hWb : W.heap.size ≤ R
  hWG : W.heap.size ≤ G

/-- behind a read of a number -/
theorem GenSt.read {p G R base N f t : Nat} {l : List (Int × Int)} {W wr w' : World} (h : GenSt p G R base N f t l W wr) (hs : SrcOk w' p) (hg : wr.grownBy w' (some p)) : GenSt p G R base N f t l W w' :=
  { h with src := hs, near := h.near.trans (Near.of_grown hg h.near.size), res := h.res.grown hg (fun e => by injection e with e; exact h.hpR e.symm), hb := Nat.le_trans h.hb hg.size }
/-- behind an append, and the store into the variable g -/
theorem GenSt.add {p G R base N f t : Nat} {l : List (Int × Int)} {W wr w' : World} {v : Value} {e : TypeId} {size n : Nat} {xs : List Value} (h : GenSt p G R base N f t l W wr) (ho : wr.ownsRow base e size v n xs) (hg : wr.grownBy w' v.ownBlock) (hbl : Below base wr w')
    (hf : f < N) (ht : t < N) (u : Value) : GenSt p G R base N f (t + 1) (l ++ [((f : Int), (t : Int))]) W (w'.setCell ⟨G, 1, none⟩ u) :=
  { h with
    src := (h.src.append ho hg h.hp).other (grownBy_setCell w' G 1 u) (fun k hk => by injection hk with hk; have := h.hpW; have := h.hWG; omega)
    near := (h.near.trans (Near.of_below (hbl.mono (by have := h.hG; have := h.hWG; omega)))).setCell (by exact h.hWG) u
    res := (h.res.append ho hg h.hR).far (p := ⟨G, 1, none⟩) h.hRG u
    bef := before_snoc h.bef
    srt := List.pairwise_append.2 ⟨h.srt, List.pairwise_singleton .., fun a ha b hb => by rw [List.mem_singleton] at hb; subst hb; exact h.bef a ha⟩
    rng := fun q hq => by
      rcases List.mem_append.1 hq with hq | hq
      · exact h.rng q hq
      · rw [List.mem_singleton] at hq; subst hq; simp; omega
    len := by have := h.len; simp; omega
    hb := by have := hbl.size; have := h.hb; simp [World.setCell]; omega }
theorem GenSt.next {p G R base N f t : Nat} {l : List (Int × Int)} {W wr : World} (h : GenSt p G R base N f t l W wr) : GenSt p G R base N f (t + 1) l W wr :=
  { h with bef := before_next h.bef, len := by have := h.len; omega }
theorem GenSt.row {p G R base N f : Nat} {l : List (Int × Int)} {W wr : World} (h : GenSt p G R base N f N l W wr) (hN : N ≤ 40) : GenSt p G R base N (f + 1) 0 l W wr :=
  { h with bef := before_row h.bef h.rng, len := by have := h.len; omega }
theorem GenSt.ends {p G R base N f : Nat} {l : List (Int × Int)} {W wr : World} (h : GenSt p G R base N f 0 l W wr) (hN : N ≤ 40) (hf : f ≤ N) (x y : Value) : Vld N l ∧ SrcOk ((wr.setCell ⟨R, 0, none⟩ x).setCell ⟨R, 1, none⟩ y) p ∧ W.grownBy ((wr.setCell ⟨R, 0, none⟩ x).setCell ⟨R, 1, none⟩ y) (some p) :=
  ⟨⟨⟨hN, by have := h.len; omega, h.rng⟩, h.srt⟩, (h.src.other (grownBy_setCell wr R 0 x) (fun k hk => by injection hk with hk; have := h.hpW; have := h.hWb; omega)).other (grownBy_setCell _ R 1 y) (fun k hk => by injection hk with hk; have := h.hpW; have := h.hWb; omega),
    ((h.near.setCell (q := ⟨R, 0, none⟩) h.hWb x).setCell (q := ⟨R, 1, none⟩) h.hWb y).grown⟩
end Go.Proofs.YtncimnfhfomddaaDoor

/- keep's Part; the append of a whole slice of numbers; the reference's Grow, Shrink, Greedy. -/
namespace Go.Proofs.YtncimnfhfomddaaDoor
open Go.ChangeShapes Go.WideShapes Go.ChangeAt Go.RowKit

/-- the call returns a set of nodes below n, in a new slice; the reader has gone on -/
def RetPa (p n : Nat) (w : World) : Ending → World → Prop := fun e w' => ∃ (f : Nat → Bool) (v : Value), e = .returned v ∧ OwnI w' w.heap.size v (nodesB n f) ∧ SrcOk w' p ∧ w.grownBy w' (some p)

theorem nodesB_more1 (k : Nat) (f : Nat → Bool) (b : Bool) : nodesB (k + 1) (fun i => if i = k then b else f i) = nodesB k f ++ (if b then [(k : Int)] else []) := by
  rw [nodesB_succ]
  have e : nodesB k (fun i => if i = k then b else f i) = nodesB k f := nodesB_congr fun i hi => by rw [if_neg (by omega)]
  rw [e]
  simp

set_option maxRecDepth 100000 in
/-- 'out = append(out, xs...)', out a slice of numbers of the call's own -/
theorem wpList_appIs {ops : Array Oper} {rest : List Oper} {o : Oper} {a : Act} {Q : Exit → Act → World → Prop} (hgd : o.guard = none) (s x : Operand)
    (ho : o.op = .call { callee := .builtin .append, args := #[s, x], argTypes := #[25, 25] })
    (X : World) (base : Nat) (v : Value) (l : List Int) (B : Option Addr) (l2 : List Int) (c : Nat) (hown : OwnI X base v l) (hr : RI X B l2) (hB : B = none → l2 = [] ∧ c = 0) (hs : a.eval s = v) (hx : a.eval x = .slice B l2.length c)
    (hlen : l.length + l2.length ≤ 1000000) (hbase : base ≤ X.heap.size)
    (h : ∀ v' w', OwnI w' base v' (l ++ l2) → Below base X w' → X.grownBy w' v.ownBlock → wpList Tryd.prog ops Q rest (a.put o.dst v') w') :
    wpList Tryd.prog ops Q (o :: rest) a X := by
  obtain ⟨i0, hi, hz0, hz1, hz2⟩ := info_parts info_int
  cases B with
  | none =>
    obtain ⟨rfl, rfl⟩ := hB rfl
    refine wpList_append_own_none hgd s x 25 ho base 3 i0 1 Tryd.underlying25 hi v l.length _ hs hown hx (h v X ?_ (Below.refl _ _) (grownBy_refl _ _))
    rw [List.append_nil]; exact hown
  | some ad =>
    refine wpList_append_own _ hgd s x 25 ho base 3 i0 (.int .i64 0) 1 8 Tryd.underlying25 hi hz0 hz1 hz2 rfl (by decide) v l.length _ hs hown ad l2.length c (l2.map (Value.int .i64)) hx (by simp) (fun j u hu => ?_)
      (by intro u hu; rw [List.mem_map] at hu; obtain ⟨y, _, rfl⟩ := hu; rfl) (by unfold maxLen; omega) (by omega) hbase ?_
    · rw [List.getElem?_map] at hu
      cases hj : l2[j]? with
      | none => rw [hj] at hu; cases hu
      | some y =>
        rw [hj] at hu
        simp only [Option.map_some, Option.some.injEq] at hu
        subst hu
        have hjl := (List.getElem?_eq_some_iff.1 hj).1
        obtain ⟨b, off, hA, hc⟩ := hr j hjl
        injection hA with hA; subst hA
        rw [show (⟨b, off, none⟩ : Addr).add j = ⟨b, off + j, none⟩ by unfold Addr.add; split <;> simp_all, hc]
        simp [List.getD, hj]
    · intro v' w1 hown' hgrow _
      refine h v' w1 ?_ ((Below.refl base X).grown hgrow hbase (fun k hk => (hown.lt k hk).1)) hgrow
      unfold OwnI; rw [List.length_append, List.map_append]; exact hown'
/-- '[]int{}' -/
theorem own_empty (w : World) : OwnI (w.alloc (.cells #[] 3)) w.heap.size (.slice (some ⟨w.heap.size, 0, none⟩) 0 0) [] :=
  World.ownsRow_made w #[] 0 (Nat.le_refl _) (by decide) (by simp)
end Go.Proofs.YtncimnfhfomddaaDoor

/- The walk of keep's Graph. -/
namespace Go.Proofs.YtncimnfhfomddaaDoor
open Go.ChangeShapes Go.WideShapes Go.ChangeAt Go.RowKit

/-- the variable g: its two cells; the pairs so far are the call's own -/
structure GenG (G base N : Nat) (l : List (Int × Int)) (v : Value) (wr : World) : Prop where
  blk : Blk wr G 24 #[.int .i64 (N : Int), v]
  own : OwnP wr base v l

end Go.Proofs.YtncimnfhfomddaaDoor

/- The reference's Grow and Shrink: the same lists and errors as Grow's and Shrink's. -/
namespace Go.Proofs.YtncimnfhfomddaaDoor
open Go.ChangeShapes Go.WideShapes Go.ChangeAt Go.RowKit

/-- how many numbers a slice holds -/
def lenOf : Value → Nat
  | .slice _ n _ => n
  | _ => 0
theorem nodesB_sublist {n : Nat} {p q : Nat → Bool} (h : ∀ i, p i = true → q i = true) : (nodesB n p).Sublist (nodesB n q) := by
  unfold nodesB
  refine List.Sublist.map _ ?_
  have e : (List.range n).filter p = ((List.range n).filter q).filter p := by
    rw [List.filter_filter]
    refine List.filter_congr fun i _ => ?_
    cases hp : p i
    · simp
    · simp [h i hp]
  rw [e]
  exact List.filter_sublist
theorem nodes_len {n a b : Nat} (ha : a < 2 ^ n) (hb : b < 2 ^ n) (h : sub a b) : (nodesB n a.testBit).length ≤ (nodesB n b.testBit).length ∧ ((nodesB n a.testBit).length = (nodesB n b.testBit).length → a = b) :=
  ⟨(nodesB_sublist h).length_le, fun e => nodes_inj ha hb ((nodesB_sublist h).eq_of_length e)⟩
theorem stepR_nodes {n : Nat} {l : List (Int × Int)} (hv : InR n l) {m : Nat} (hm : m < 2 ^ n) : stepR n l (nodesB n m.testBit) = nodesB n (stepN n l m).testBit := by
  rw [stepR_eq hv]
  unfold stepL
  rw [if_pos (setB_nodes n _), mask_nodes hm]

end Go.Proofs.YtncimnfhfomddaaDoor

/- Appends and allocations as effects of a region; the tree's steps. -/
namespace Go.Proofs.YtncimnfhfomddaaDoor
open Go.ChangeShapes Go.WideShapes Go.ChangeAt Go.RowKit

theorem OwnI.form2 {w : World} {b : Nat} {v : Value} {l : List Int} (h : OwnI w b v l) : ∃ A c, v = .slice A l.length c ∧ RI w A l ∧ (A = none → l = [] ∧ c = 0) := by
  have h' := h
  obtain ⟨h1, h2⟩ := h
  rcases h2 with ⟨rfl, hn⟩ | ⟨g, cap, cur, rfl, hg, r⟩
  · have : l = [] := List.eq_nil_of_length_eq_zero hn
    subst this
    exact ⟨none, 0, rfl, RI.nil _ _, fun _ => ⟨rfl, rfl⟩⟩
  · exact ⟨_, _, rfl, h'.ri, fun e => by cases e⟩
set_option maxRecDepth 100000 in
/-- 'append(s, xs...)' as an effect of a region -/
theorem eff_appIs {o : Oper} {a : Act} (s x : Operand)
    (ho : o.op = .call { callee := .builtin .append, args := #[s, x], argTypes := #[25, 25] })
    (X : World) (base : Nat) (v : Value) (l : List Int) (B : Option Addr) (l2 : List Int) (c : Nat) (hown : OwnI X base v l) (hr : RI X B l2) (hB : B = none → l2 = [] ∧ c = 0) (hs : a.eval s = v) (hx : a.eval x = .slice B l2.length c)
    (hlen : l.length + l2.length ≤ 1000000) (hbase : base ≤ X.heap.size) {Post : Value → World → Prop}
    (h : ∀ v' w', OwnI w' base v' (l ++ l2) → Below base X w' → X.grownBy w' v.ownBlock → Post v' w') : Eff Tryd.prog o a X Post := by
  obtain ⟨i0, hi, hz0, hz1, hz2⟩ := info_parts info_int
  unfold Eff
  cases B with
  | none =>
    obtain ⟨rfl, rfl⟩ := hB rfl
    have hrun := run_append_owned_none (P := Tryd.prog) (w := X) base 25 o.type 3 i0 1 Tryd.underlying25 hi v l.length _ hown
    have hp := h v X (by rw [List.append_nil]; exact hown) (Below.refl _ _) (grownBy_refl _ _)
    unfold Oper.wp
    simp [execOp, ho, resolve, invoke, builtin, hs, hx, hrun, Result.andThen]
    exact ⟨v, rfl, hp⟩
  | some ad =>
    refine wp_append_own X s x 25 ho base 3 i0 (.int .i64 0) 1 8 Tryd.underlying25 hi hz0 hz1 hz2 rfl (by decide) v l.length _ hs hown ad l2.length c (l2.map (Value.int .i64)) hx (by simp) (fun j u hu => ?_)
      (by intro u hu; rw [List.mem_map] at hu; obtain ⟨y, _, rfl⟩ := hu; rfl) (by unfold maxLen; omega) (by omega) hbase ?_
    · rw [List.getElem?_map] at hu
      cases hj : l2[j]? with
      | none => rw [hj] at hu; cases hu
      | some y =>
        rw [hj] at hu
        simp only [Option.map_some, Option.some.injEq] at hu
        subst hu
        have hjl := (List.getElem?_eq_some_iff.1 hj).1
        obtain ⟨b, off, hA, hc⟩ := hr j hjl
        injection hA with hA; subst hA
        rw [show (⟨b, off, none⟩ : Addr).add j = ⟨b, off + j, none⟩ by unfold Addr.add; split <;> simp_all, hc]
        simp [List.getD, hj]
    · intro v' w1 hown' hgrow _
      refine ⟨v', rfl, h v' w1 ?_ ((Below.refl base X).grown hgrow hbase (fun k hk => (hown.lt k hk).1)) hgrow⟩
      unfold OwnI; rw [List.length_append, List.map_append]; exact hown'

section
variable {P : Program} {ops : Array Oper} {Q : Exit → Act → World → Prop} {S : World → Prop} {es : List Nat}
theorem TxtT.pure {n : Nat} {L : List Nat} {J : World → Prop} {a : Act} (i : Nat) {o : Oper} (hi : L.contains i = true) (ho : ops[i]? = some o) (he : es.contains i = false) (hr : readyIn ops L i = true) (hw : Region.wanted o (yielded ops a.tmps) = true)
    (h : ∃ v, (∀ w, S w → (execOp a.eval o).run P w = .ok (.value v) w) ∧ TxtT P ops Q S es n (L.erase i) J (a.put o.dst v)) : TxtT P ops Q S es (n + 1) L J a := by
  obtain ⟨v, h1, h2⟩ := h
  exact .inl ⟨i, o, by simpa using hi, ho, he, hr, v, .inl ⟨hw, h1⟩, h2⟩
/-- one effect is ready -/
theorem TxtT.one {n : Nat} {L : List Nat} {J : World → Prop} {a : Act} (i : Nat) {o : Oper} (hL : L.filter (readyIn ops L) = [i]) (ho : ops[i]? = some o) (he : es.contains i = true) (hw : Region.wanted o (yielded ops a.tmps) = true)
    (Sh : Value → Prop) (J' : Value → World → Prop) (h : ∀ w, S w → J w → Eff P o a w fun v w' => S w' ∧ Sh v ∧ J' v w') (hr : ∀ v, Sh v → TxtT P ops Q S es n (L.erase i) (J' v) (a.put o.dst v)) : TxtT P ops Q S es (n + 1) L J a := by
  have hm : ∀ j ∈ L, readyIn ops L j = true → j = i := fun j hj hrj => by
    have : j ∈ L.filter (readyIn ops L) := List.mem_filter.2 ⟨hj, hrj⟩
    rw [hL] at this
    simpa using this
  refine .inr ⟨fun e => by subst e; simp at hL, fun j hj hrj => by rw [hm j hj hrj]; exact he, fun j hj hrj => ?_⟩
  rw [hm j hj hrj]
  exact ⟨o, ho, hw, Sh, J', h, hr⟩
/-- two effects are ready -/
theorem TxtT.two {n : Nat} {L : List Nat} {J : World → Prop} {a : Act} (i k : Nat) {o o2 : Oper} (hL : L.filter (readyIn ops L) = [i, k]) (ho : ops[i]? = some o) (ho2 : ops[k]? = some o2) (he : es.contains i = true) (he2 : es.contains k = true) (hw : Region.wanted o (yielded ops a.tmps) = true) (hw2 : Region.wanted o2 (yielded ops a.tmps) = true)
    (Sh : Value → Prop) (J' : Value → World → Prop) (Sh2 : Value → Prop) (J2 : Value → World → Prop) (h : ∀ w, S w → J w → Eff P o a w fun v w' => S w' ∧ Sh v ∧ J' v w') (h2 : ∀ w, S w → J w → Eff P o2 a w fun v w' => S w' ∧ Sh2 v ∧ J2 v w')
    (hr : ∀ v, Sh v → TxtT P ops Q S es n (L.erase i) (J' v) (a.put o.dst v)) (hr2 : ∀ v, Sh2 v → TxtT P ops Q S es n (L.erase k) (J2 v) (a.put o2.dst v)) : TxtT P ops Q S es (n + 1) L J a := by
  have hm : ∀ j ∈ L, readyIn ops L j = true → j = i ∨ j = k := fun j hj hrj => by
    have : j ∈ L.filter (readyIn ops L) := List.mem_filter.2 ⟨hj, hrj⟩
    rw [hL] at this
    simpa using this
  refine .inr ⟨fun e => by subst e; simp at hL, fun j hj hrj => ?_, fun j hj hrj => ?_⟩
  · rcases hm j hj hrj with h | h <;> rw [h] <;> assumption
  · rcases hm j hj hrj with h3 | h3
    · rw [h3]; exact ⟨o, ho, hw, Sh, J', h, hr⟩
    · rw [h3]; exact ⟨o2, ho2, hw2, Sh2, J2, h2, hr2⟩
theorem Eff.value {o : Oper} {a : Act} {w w' : World} {v : Value} {Post : Value → World → Prop} (hrun : (execOp a.eval o).run P w = .ok (.value v) w') (h : Post v w') : Eff P o a w Post := by
  unfold Eff Oper.wp
  rw [hrun]
  exact ⟨v, rfl, h⟩
end

theorem own_one (w : World) (z : Int) : OwnI (w.alloc (.cells #[.int .i64 z] 3)) w.heap.size (.slice (some ⟨w.heap.size, 0, none⟩) 1 1) [z] :=
  ⟨by simp, .inr ⟨w.heap.size, 1, #[.int .i64 z], rfl, Nat.le_refl _, Blk.new _ _ _, Nat.le_refl _, by decide, by simp, by simp⟩⟩
theorem shapeI {w : World} {b : Nat} {v : Value} {l : List Int} (h : OwnI w b v l) : ∃ A c, v = .slice A l.length c := by
  obtain ⟨A, c, e, _⟩ := h.form2
  exact ⟨A, c, e⟩
theorem OwnI.old {w : World} {b : Nat} {v : Value} {l : List Int} (h : OwnI w b v l) {g : Nat} (hg : v.ownBlock = some g) : g < w.heap.size := (World.ownsRow.lt h g hg).2

end Go.Proofs.YtncimnfhfomddaaDoor

/- What a statement over one graph and a reader knows while it goes on; slices that it tries. -/
namespace Go.Proofs.YtncimnfhfomddaaDoor
open Go.ChangeShapes Go.WideShapes Go.ChangeAt Go.RowKit

theorem RP.grown {w w' : World} {A : Option Addr} {l : List (Int × Int)} {p : Nat} (h : RP w A l) (hg : w.grownBy w' (some p)) (hne : ∀ b o, A = some ⟨b, o, none⟩ → b ≠ p) : RP w' A l := by
  intro k hk
  obtain ⟨b, o, hA, hc, hd⟩ := h k hk
  have := hne b o hA
  exact ⟨b, o, hA, hg.cell hc (by simpa using this), hg.cell hd (by simpa using this)⟩
theorem RI.grown {w w' : World} {A : Option Addr} {l : List Int} {p : Nat} (h : RI w A l) (hg : w.grownBy w' (some p)) (hne : ∀ b o, A = some ⟨b, o, none⟩ → l ≠ [] → b ≠ p) : RI w' A l := by
  intro k hk
  obtain ⟨b, o, hA, hc⟩ := h k hk
  have := hne b o hA (fun e => by subst e; simp at hk)
  exact ⟨b, o, hA, hg.cell hc (by simpa using this)⟩

/-- the graph's box, its pairs, the reader; w is the world in which the statement began -/
structure GSt (w : World) (p G n : Nat) (l : List (Int × Int)) (AL : Option Addr) (cl : Nat) (wr : World) : Prop where
  c0 : wr.cell? ⟨G, 0, none⟩ = some (.int .i64 n)
  c1 : wr.cell? ⟨G, 1, none⟩ = some (.slice AL l.length cl)
  rp : RP wr AL l
  src : SrcOk wr p
  hb : Below w.heap.size w wr
  hp : w.heap.size ≤ p
  hpG : p < G
  hA : ∀ b o, AL = some ⟨b, o, none⟩ → b ≠ p
  hAG : ∀ b o, AL = some ⟨b, o, none⟩ → l ≠ [] → b < G
theorem GSt.grown {w : World} {p G n : Nat} {l : List (Int × Int)} {AL : Option Addr} {cl : Nat} {wr w' : World} (h : GSt w p G n l AL cl wr) (hs : SrcOk w' p) (hg : wr.grownBy w' (some p)) : GSt w p G n l AL cl w' :=
  have := h.hpG
  ⟨hg.cell h.c0 (by simp; omega), hg.cell h.c1 (by simp; omega), h.rp.grown hg h.hA, hs, h.hb.trans (below_of_grownBy hg h.hp h.hb.size), h.hp, h.hpG, h.hA, h.hAG⟩
theorem GSt.below {w : World} {p G n : Nat} {l : List (Int × Int)} {AL : Option Addr} {cl : Nat} {wr w' : World} (h : GSt w p G n l AL cl wr) (hb : Below wr.heap.size wr w') : GSt w p G n l AL cl w' :=
  ⟨(hb.cell (lt_of_cell h.c0)).trans h.c0, (hb.cell (lt_of_cell h.c1)).trans h.c1, h.rp.below hb, h.src.kept hb, h.hb.trans (hb.mono h.hb.size), h.hp, h.hpG, h.hA, h.hAG⟩
theorem GSt.append {w : World} {p G n : Nat} {l : List (Int × Int)} {AL : Option Addr} {cl : Nat} {wr w' : World} {base : Nat} {e : TypeId} {size k : Nat} {v : Value} {xs : List Value} (h : GSt w p G n l AL cl wr)
    (ho : wr.ownsRow base e size v k xs) (hg : wr.grownBy w' v.ownBlock) (hbl : Below base wr w') (hbase : G < base) : GSt w p G n l AL cl w' := by
  have hne : ∀ b, b ≤ G → some b ≠ v.ownBlock := fun b hb he => by have := (ho.lt b he.symm).1; omega
  refine ⟨hg.cell h.c0 (hne _ (Nat.le_refl _)), hg.cell h.c1 (hne _ (Nat.le_refl _)), fun i hi => ?_, h.src.append ho hg (by have := h.hpG; omega), h.hb.trans (hbl.mono (by have := h.hp; have := h.hpG; omega)), h.hp, h.hpG, h.hA, h.hAG⟩
  obtain ⟨b, o, hA, hc, hd⟩ := h.rp i hi
  have := h.hAG b o hA (fun e => by subst e; simp at hi)
  exact ⟨b, o, hA, hg.cell hc (hne _ (by simp; omega)), hg.cell hd (hne _ (by simp; omega))⟩
theorem GSt.start {w w1 w2 W0 : World} {p n : Nat} {l : List (Int × Int)} {AL : Option Addr} {cl : Nat} (hp : w.heap.size ≤ p) (hp1 : p < w1.heap.size) (hb2 : Below w.heap.size w w2) (hs2 : SrcOk w2 p) (hrp : RP w2 AL l) (hloc : ∀ b o, AL = some ⟨b, o, none⟩ → w1.heap.size ≤ b)
    (hb0 : Below w2.heap.size w2 W0) (c0 : W0.cell? ⟨w2.heap.size, 0, none⟩ = some (.int .i64 n)) (c1 : W0.cell? ⟨w2.heap.size, 1, none⟩ = some (.slice AL l.length cl)) : GSt w p w2.heap.size n l AL cl W0 :=
  ⟨c0, c1, hrp.below hb0, hs2.kept hb0, hb2.trans (hb0.mono hb2.size), hp, hs2.lt, fun b o h e => by have := hloc b o h; omega, fun b o h hne => by
    obtain ⟨b', o', hA, hc, _⟩ := hrp 0 (List.length_pos_iff.2 hne)
    rw [h] at hA
    injection hA with hA
    injection hA with hA
    subst hA
    exact lt_of_cell hc⟩

/-- v is a slice of numbers that lies apart from block p -/
def AnyO (p : Nat) (w : World) (v : Value) : Prop := ∃ (A : Option Addr) (x : List Int) (c : Nat), v = .slice A x.length c ∧ RI w A x ∧ x.length ≤ 100000 ∧ (A = none → x = [] ∧ c = 0) ∧ ∀ b o, A = some ⟨b, o, none⟩ → x ≠ [] → b ≠ p
theorem AnyO.grown {p : Nat} {w w' : World} {v : Value} (h : AnyO p w v) (hg : w.grownBy w' (some p)) : AnyO p w' v := by
  obtain ⟨A, x, c, e, hr, hl, hn, hne⟩ := h
  exact ⟨A, x, c, e, hr.grown hg hne, hl, hn, hne⟩
theorem AnyO.below {p : Nat} {w w' : World} {v : Value} (h : AnyO p w v) (hb : Below w.heap.size w w') : AnyO p w' v := by
  obtain ⟨A, x, c, e, hr, hl, hn, hne⟩ := h
  exact ⟨A, x, c, e, hr.below hb, hl, hn, hne⟩
theorem AnyO.nil (p : Nat) (w : World) : AnyO p w (.slice none 0 0) := ⟨none, [], 0, rfl, RI.nil _ _, by simp, fun _ => ⟨rfl, rfl⟩, fun _ _ h => by cases h⟩
theorem AnyO.own {p b : Nat} {w : World} {v : Value} {x : List Int} (h : OwnI w b v x) (hl : x.length ≤ 100000) (hp : p < b) : AnyO p w v := by
  have h' := h
  obtain ⟨h1, h2⟩ := h
  rcases h2 with ⟨rfl, hn⟩ | ⟨g, cap, cur, rfl, hg, _⟩
  · exact AnyO.nil _ _
  · exact ⟨_, x, cap, rfl, h'.ri, hl, (fun e => by cases e), fun b' o' e _ => by injection e with e; injection e with e1; omega⟩
theorem AnyO.shape {p : Nat} {w : World} {v : Value} (h : AnyO p w v) : ∃ A k c, v = .slice A k c := by
  obtain ⟨A, x, c, rfl, _⟩ := h
  exact ⟨A, _, c, rfl⟩
theorem RetPa.any {p n : Nat} {w : World} {e : Ending} {w' : World} (h : RetPa p n w e w') (hn : n ≤ 40) (hp : p < w.heap.size) : ∃ v, e = .returned v ∧ AnyO p w' v ∧ SrcOk w' p ∧ w.grownBy w' (some p) := by
  obtain ⟨f, v, rfl, ho, hs, hg⟩ := h
  exact ⟨v, rfl, AnyO.own ho (by have := nodesB_length n f; omega) hp, hs, hg⟩
end Go.Proofs.YtncimnfhfomddaaDoor
