/- graph: the depth-first search that finds the components. -/
import Derived.Test.YtkflanjlnbdkmaaGreatDoorCmp
import Derived.Test.YtkflanjlnbdkmaaGreatDoorTxtE
import Derived.Test.YtkflanjlnbdkmaaGreatDoorTxtZ
import Derived.BigRegion
import Derived.WalkSmall
import Derived.Deep.DeepCutAuto
namespace Go.Proofs.YtkflanjlnbdkmaaGreatDoor
open Go.ChangeShapes Go.WideShapes Go.ChangeAt Go.RowKit

/-- a set as a value -/
def vU (m : Nat) : Value := .int .u64 (m : Int)
/-- the slice v, made by the call, holds the sets of the list -/
def OwnU (w : World) (base : Nat) (v : Value) (l : List Nat) : Prop := w.ownsRow base 92 1 v l.length (l.map vU)
theorem OwnU.nil (w : World) (base : Nat) : OwnU w base (.slice none 0 0) [] := World.ownsRow_nil w base _ _
theorem OwnU.mono {w : World} {b b' : Nat} {v : Value} {l : List Nat} (h : OwnU w b v l) (hb : b' ≤ b) : OwnU w b' v l := by
  obtain ⟨h1, h2⟩ := h
  refine ⟨h1, ?_⟩
  rcases h2 with h2 | ⟨g, cap, cur, hv, hg, r⟩
  · exact .inl h2
  · exact .inr ⟨g, cap, cur, hv, Nat.le_trans hb hg, r⟩
set_option maxRecDepth 100000 in
/-- append of one set; where the result lies -/
theorem wpList_appU2 {ops : Array Oper} {rest : List Oper} {o : Oper} {a : Act} {Q : Exit → Act → World → Prop} (hgd : o.guard = none) (s x : Operand)
    (ho : o.op = .call { callee := .builtin .append, args := #[s, x], argTypes := #[90, 90] })
    (X : World) (base : Nat) (v : Value) (l : List Nat) (y : Nat) (hown : OwnU X base v l) (hs : a.eval s = v) {gx : Nat} (hx : a.eval x = .slice (some ⟨gx, 0, none⟩) 1 1) (hgx : gx = X.heap.size)
    (hlen : l.length ≤ 1000000) (hbase : base ≤ X.heap.size)
    (h : ∀ v' w', OwnU w' base v' (l ++ [y]) → Below base X w' → X.grownBy w' v.ownBlock → (v'.ownBlock = v.ownBlock ∨ ∀ k, v'.ownBlock = some k → X.heap.size ≤ k) → wpList Tryz.prog ops Q rest (a.put o.dst v') w') :
    wpList Tryz.prog ops Q (o :: rest) a (X.alloc (.cells #[.int .u64 (y : Int)] 92)) := by
  subst hgx
  obtain ⟨i0, hi, hz0, hz1, hz2⟩ := info_parts info_u64
  have hbX : ∀ w', (X.alloc (.cells #[.int .u64 (y : Int)] 92)).grownBy w' v.ownBlock → Below base X w' ∧ X.grownBy w' v.ownBlock := fun w' hg =>
    ⟨((Below.refl base X).alloc hbase _).grown hg (by simp; omega) (fun k hk => ((World.ownsRow.alloc hown (.cells #[.int .u64 (y : Int)] 92)).lt k hk).1),
     ⟨hg.os, hg.tape, hg.output, Nat.le_trans (by simp) hg.size, fun k hk hne => (hg.block k (by simp; omega) hne).trans (Below.heap_alloc _ _ _ hk)⟩⟩
  have hgrow : ∀ (A : Option Addr) (cap : Nat), v = .slice A l.length cap → (A = none → l.length = 0 ∧ cap = 0) → cap < l.length + 1 → wpList Tryz.prog ops Q (o :: rest) a (X.alloc (.cells #[.int .u64 (y : Int)] 92)) := by
    intro A cap hv hA hfull
    have hA2 : ∀ b, A = some b → ∀ j u, (l.map vU)[j]? = some u → (X.alloc (.cells #[.int .u64 (y : Int)] 92)).cell? (b.add j) = some u := by
      intro b hb j u hj
      rcases hown.2 with ⟨e, hn⟩ | ⟨g, cp, cur, e, hg, r⟩
      · rw [hv, hb] at e; cases e
      · have hc := (World.ownsRow.alloc hown (.cells #[.int .u64 (y : Int)] 92)).cells (g := g) (by rw [e]; rfl) j u hj
        rw [hv, hb] at e
        injection e with e _ _
        injection e with e
        rw [e]; exact hc
    refine wpList_append_grows (X.alloc (.cells #[.int .u64 (y : Int)] 92)) hgd s x 90 ho 92 i0 (.int .u64 0) 1 8 Tryz.underlying90 hi hz0 hz1 hz2 rfl (by decide) A l.length cap (l.map vU) (by rw [hs, hv]) hA (by simp) hA2
      ⟨X.heap.size, 0, none⟩ 1 1 [.int .u64 (y : Int)] hx rfl (new_cell _ _ _) (by intro u hu; simp at hu; subst hu; rfl) hfull (by unfold maxLen; omega) (by omega) ?_
    intro v' w1 hown' hg
    have hsz : X.heap.size + 1 = (X.alloc (.cells #[.int .u64 (y : Int)] 92)).heap.size := by simp
    have hg2 : (X.alloc (.cells #[.int .u64 (y : Int)] 92)).grownBy w1 v.ownBlock := ⟨hg.os, hg.tape, hg.output, hg.size, fun k hk _ => hg.block k hk (by simp)⟩
    obtain ⟨h1, h2⟩ := hbX w1 hg2
    have ho' : OwnU w1 (X.alloc (.cells #[.int .u64 (y : Int)] 92)).heap.size v' (l ++ [y]) := by unfold OwnU; rw [List.length_append, List.map_append]; exact hown'
    exact h v' w1 (ho'.mono (by omega)) h1 h2 (.inr fun k hk => by have := (World.ownsRow.lt ho' k hk).1; omega)
  rcases hown.2 with ⟨e, hn⟩ | ⟨g, cap, cur, e, hg, hh, hn, hcap, hrest⟩
  · exact hgrow none 0 (by rw [e, hn]) (fun _ => ⟨hn, rfl⟩) (by omega)
  · by_cases hroom : l.length + 1 ≤ cap
    · subst e
      refine wpList_append_fits _ hgd s x 90 ho base 92 i0 1 Tryz.underlying90 hi hz1 g l.length cap (l.map vU) hs (World.ownsRow.alloc hown _) ⟨X.heap.size, 0, none⟩ 1 1 [.int .u64 (y : Int)] hx rfl (new_cell _ _ _)
        (by intro u hu; simp at hu; subst hu; rfl) hroom ?_
      intro w1 hown' hg'
      obtain ⟨h1, h2⟩ := hbX w1 hg'
      refine h _ w1 ?_ h1 h2 (.inl rfl)
      unfold OwnU; rw [List.length_append, List.map_append]; exact hown'
    · exact hgrow _ cap e (fun h => by cases h) (by omega)


theorem OwnI.farC {w : World} {B : Nat} {v : Value} {l : List Int} (h : OwnI w B v l) {a : Addr} (ha : a.block < B) (u : Value) : OwnI (w.setCell a u) B v l :=
  ownsRow_setCell_below h ha u
theorem OwnU.farC {w : World} {B : Nat} {v : Value} {l : List Nat} (h : OwnU w B v l) {a : Addr} (ha : a.block < B) (u : Value) : OwnU (w.setCell a u) B v l :=
  ownsRow_setCell_below h ha u
theorem OwnI.capC {w : World} {b : Nat} {A : Option Addr} {n c : Nat} {l : List Int} (h : OwnI w b (.slice A n c) l) : l.length ≤ c := by
  obtain ⟨h1, h2⟩ := h
  rcases h2 with ⟨e, hn⟩ | ⟨g, cap, cur, e, hg, hh, hn, r⟩
  · omega
  · injection e with _ _ e; omega
/-- new blocks, and writes to the blocks in question -/
structure Mut (H : Nat → Prop) (w w' : World) : Prop where
  os : w'.os = w.os
  tape : w'.tape = w.tape
  output : w'.output = w.output
  size : w.heap.size ≤ w'.heap.size
  block : ∀ k, k < w.heap.size → ¬ H k → w'.heap[k]? = w.heap[k]?
theorem Mut.refl (H : Nat → Prop) (w : World) : Mut H w w := ⟨rfl, rfl, rfl, Nat.le_refl _, fun _ _ _ => rfl⟩
theorem Mut.trans {H K : Nat → Prop} {a b c : World} (h : Mut H a b) (k : Mut K b c) (hK : ∀ i, i < a.heap.size → K i → H i) : Mut H a c :=
  ⟨k.os.trans h.os, k.tape.trans h.tape, k.output.trans h.output, Nat.le_trans h.size k.size, fun i hi hn => (k.block i (Nat.lt_of_lt_of_le hi h.size) (fun e => hn (hK i hi e))).trans (h.block i hi hn)⟩
theorem Mut.of_below {H : Nat → Prop} {a b : World} (h : Below a.heap.size a b) : Mut H a b := ⟨h.os, h.tape, h.output, h.size, fun k hk _ => h.block k hk⟩
theorem Mut.of_grown {H : Nat → Prop} {a b : World} {r : Option Nat} (h : a.grownBy b r) (hr : ∀ k, r = some k → H k) : Mut H a b :=
  ⟨h.os, h.tape, h.output, h.size, fun k hk hn => h.block k hk (fun e => hn (hr k e.symm))⟩
theorem Mut.setCell {H : Nat → Prop} {a b : World} (h : Mut H a b) {q : Addr} (hq : H q.block) (u : Value) : Mut H a (b.setCell q u) :=
  ⟨h.os, h.tape, h.output, by simpa [World.setCell] using h.size, fun k hk hn => (Below.heap_setCell b q u k (fun e => hn (e ▸ hq))).trans (h.block k hk hn)⟩
theorem Mut.drew {H : Nat → Prop} {a b : World} (h : Mut H a b) : Mut H a b.drew := ⟨h.os, h.tape, h.output, h.size, h.block⟩
theorem Mut.drewN {H : Nat → Prop} {a b : World} (h : Mut H a b) (q : Nat) : Mut H a (b.drewN q) := ⟨h.os, h.tape, h.output, h.size, h.block⟩
theorem Mut.below {H : Nat → Prop} {a b : World} {B : Nat} (h : Mut H a b) (hB : B ≤ a.heap.size) (hH : ∀ k, k < B → ¬ H k) : Below B a b :=
  ⟨h.os, h.tape, h.output, h.size, fun k hk => h.block k (by omega) (hH k hk)⟩

def TjHot (p gO gL : Nat) (vS vF : Value) (k : Nat) : Prop := k = p ∨ k = gO ∨ k = gL ∨ vS.ownBlock = some k ∨ vF.ownBlock = some k
section
variable {B n : Nat} {m : Nat → Nat} {p gN gO gL : Nat} {s : TS} {vS vF : Value} {w : World}
theorem OwnU.farB {w : World} {B : Nat} {v : Value} {l : List Nat} (h : OwnU w B v l) {a : Addr} (ha : a.block < B) (u : Value) : OwnU (w.setCell a u) B v l :=
  ownsRow_setCell_below h ha u
theorem rowIs_heap {w w' : World} {g n : Nat} {t : TypeId} {f : Nat → Value} (h : w.rowIs g t n f) (e : w'.heap[g]? = w.heap[g]?) : w'.rowIs g t n f := by
  obtain ⟨c, h1, h2, h3⟩ := h
  exact ⟨c, e.trans h1, h2, h3⟩
theorem OwnU.block {w : World} {b : Nat} {v : Value} {l : List Nat} (h : OwnU w b v l) : ∀ k, v.ownBlock = some k → b ≤ k ∧ k < w.heap.size := fun k hk => World.ownsRow.lt h k hk
theorem OwnI.blocks {w : World} {b : Nat} {v : Value} {l : List Int} (h : OwnI w b v l) : ∀ k, v.ownBlock = some k → b ≤ k ∧ k < w.heap.size := fun k hk => World.ownsRow.lt h k hk
end
theorem TxtT.three {P : Program} {ops : Array Oper} {Q : Exit → Act → World → Prop} {S : World → Prop} {es : List Nat} {n : Nat} {L : List Nat} {J : World → Prop} {a : Act} (i k q : Nat) {o o2 o3 : Oper} (hL : L.filter (readyIn ops L) = [i, k, q]) (ho : ops[i]? = some o) (ho2 : ops[k]? = some o2) (ho3 : ops[q]? = some o3) (he : es.contains i = true) (he2 : es.contains k = true) (he3 : es.contains q = true) (hw : Region.wanted o (yielded ops a.tmps) = true) (hw2 : Region.wanted o2 (yielded ops a.tmps) = true) (hw3 : Region.wanted o3 (yielded ops a.tmps) = true)
    (Sh : Value → Prop) (J' : Value → World → Prop) (Sh2 : Value → Prop) (J2 : Value → World → Prop) (Sh3 : Value → Prop) (J3 : Value → World → Prop) (h : ∀ w, S w → J w → Eff P o a w fun v w' => S w' ∧ Sh v ∧ J' v w') (h2 : ∀ w, S w → J w → Eff P o2 a w fun v w' => S w' ∧ Sh2 v ∧ J2 v w') (h3 : ∀ w, S w → J w → Eff P o3 a w fun v w' => S w' ∧ Sh3 v ∧ J3 v w')
    (hr : ∀ v, Sh v → TxtT P ops Q S es n (L.erase i) (J' v) (a.put o.dst v)) (hr2 : ∀ v, Sh2 v → TxtT P ops Q S es n (L.erase k) (J2 v) (a.put o2.dst v)) (hr3 : ∀ v, Sh3 v → TxtT P ops Q S es n (L.erase q) (J3 v) (a.put o3.dst v)) : TxtT P ops Q S es (n + 1) L J a := by
  have hm : ∀ j ∈ L, readyIn ops L j = true → j = i ∨ j = k ∨ j = q := fun j hj hrj => by
    have : j ∈ L.filter (readyIn ops L) := List.mem_filter.2 ⟨hj, hrj⟩
    rw [hL] at this
    simpa using this
  refine .inr ⟨fun e => by subst e; simp at hL, fun j hj hrj => ?_, fun j hj hrj => ?_⟩
  · rcases hm j hj hrj with h | h | h <;> rw [h] <;> assumption
  · rcases hm j hj hrj with e | e | e
    · rw [e]; exact ⟨o, ho, hw, Sh, J', h, hr⟩
    · rw [e]; exact ⟨o2, ho2, hw2, Sh2, J2, h2, hr2⟩
    · rw [e]; exact ⟨o3, ho3, hw3, Sh3, J3, h3, hr3⟩

theorem bit_one (m k : Nat) (h : m < 18446744073709551616) : bits .and .u64 ((m : Int) / 2 ^ k) 1 = ((if m.testBit k then 1 else 0 : Nat) : Int) := by
  have h2 : m >>> k < 18446744073709551616 := Nat.lt_of_le_of_lt (by rw [Nat.shiftRight_eq_div_pow]; exact Nat.div_le_self _ _) h
  rw [u64_shr, ← shr_and_one]
  exact u64_and_nat (m >>> k) 1 h2 (by omega)
theorem bit_yes {m k : Nat} (h : m < 18446744073709551616) (hb : has m k) : bits .and .u64 ((m : Int) / 2 ^ k) 1 = 1 := by
  rw [bit_one m k h, if_pos (show m.testBit k = true from hb)]; rfl
theorem bit_no {m k : Nat} (h : m < 18446744073709551616) (hb : ¬ has m k) : bits .and .u64 ((m : Int) / 2 ^ k) 1 = 0 := by
  rw [bit_one m k h, if_neg (show ¬ m.testBit k = true from hb)]; rfl
theorem lt_or_one {z k : Nat} (h : ¬ has z k) : z < z ||| 1 <<< k := by
  refine Nat.lt_of_le_of_ne Nat.left_le_or fun e => h ?_
  rw [e, has_or]; exact .inr (has_one.2 rfl)
theorem Tab.mu {H : Nat → Prop} {w w' : World} (h : Tab w) (hm : Mut H w w') (hn : ¬ H 0) : Tab w' := fun j hj => by
  have hlt := lt_of_cell (h j hj)
  rw [← h j hj]
  exact World.cell?_of_block (w := w) (hm.block _ hlt hn)
theorem OwnI.mu {H : Nat → Prop} {w w' : World} {b : Nat} {v : Value} {l : List Int} (h : OwnI w b v l) (hm : Mut H w w') (hn : ∀ k, v.ownBlock = some k → ¬ H k) : OwnI w' b v l := by
  have hlt := fun k hk => (OwnI.blocks h k hk).2
  obtain ⟨h1, h2⟩ := h
  refine ⟨h1, ?_⟩
  rcases h2 with h2 | ⟨g, cap, cur, hv, hg, hh, r⟩
  · exact .inl h2
  · have hk : v.ownBlock = some g := by rw [hv]; rfl
    exact .inr ⟨g, cap, cur, hv, hg, (hm.block g (hlt g hk) (hn g hk)).trans hh, r⟩

section
variable {B n : Nat} {l : List (Int × Int)} {p gN gO gL : Nat} {G : List Nat} {s : TS} {vS vF : Value} {i : Nat} {w : World} {b5 : Nat} {V5 : Value} {ks : List Int} {q : Nat} {s1 : TS} {v1 u1 : Value} {wr : World}
theorem take_toNat {ks : List Int} {q a : Nat} (hq : q < ks.length) (ha : ks[q] = (a : Int)) : (ks.take (q + 1)).map Int.toNat = (ks.take q).map Int.toNat ++ [a] := by
  rw [List.take_succ_eq_append_getElem hq, List.map_append, ha]; rfl
end
theorem snoc_cases (Q : List Nat) : Q = [] ∨ ∃ Q' k, Q = Q' ++ [k] := by
  rcases h : Q.reverse with _ | ⟨k, r⟩
  · exact .inl (List.reverse_eq_nil_iff.1 h)
  · exact .inr ⟨r.reverse, k, by rw [← List.reverse_cons, ← h, List.reverse_reverse]⟩
theorem tail_mem {i : Nat} {T Q P : List Nat} (h : i :: T = Q ++ P) (hQ : Q ≠ []) : ∀ x ∈ P, x ∈ T := fun x hx => by
  cases Q with
  | nil => exact absurd rfl hQ
  | cons a Q =>
    injection h with _ h
    rw [h]; exact List.mem_append_right _ hx
end Go.Proofs.YtkflanjlnbdkmaaGreatDoor
