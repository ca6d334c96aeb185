/- graph: the depth-first search that finds the components. -/
import Derived.Test.YtkflanjlnbdkmaaDoorCmp
import Derived.Test.YtkflanjlnbdkmaaDoorTxtE
import Derived.Test.YtkflanjlnbdkmaaDoorTxtZ
import Derived.BigRegion
import Derived.WalkSmall
import Derived.Deep.DeepCutAuto
namespace Go.Proofs.YtkflanjlnbdkmaaDoor
open Go.ChangeShapes Go.WideShapes Go.ChangeAt Go.RowKit

/-- a set as a value -/
def vU (m : Nat) : Value := .int .u64 (m : Int)
/-- the slice v, made by the call, holds the sets of the list -/
def OwnU (w : World) (base : Nat) (v : Value) (l : List Nat) : Prop := w.ownsRow base 70 1 v l.length (l.map vU)
theorem OwnU.nil (w : World) (base : Nat) : OwnU w base (.slice none 0 0) [] := World.ownsRow_nil w base _ _
theorem OwnU.mono {w : World} {b b' : Nat} {v : Value} {l : List Nat} (h : OwnU w b v l) (hb : b' ≤ b) : OwnU w b' v l := by
  obtain ⟨h1, h2⟩ := h
  refine ⟨h1, ?_⟩
  rcases h2 with h2 | ⟨g, cap, cur, hv, hg, r⟩
  · exact .inl h2
  · exact .inr ⟨g, cap, cur, hv, Nat.le_trans hb hg, r⟩
set_option maxRecDepth 100000 in
/-- append of one set; where the result lies -/
theorem wpList_appU2 {ops : Array Oper} {rest : List Oper} {o : Oper} {a : Act} {Q : Exit → Act → World → Prop} (hgd : o.guard = none) (s x : Operand)
    (ho : o.op = .call { callee := .builtin .append, args := #[s, x], argTypes := #[68, 68] })
    (X : World) (base : Nat) (v : Value) (l : List Nat) (y : Nat) (hown : OwnU X base v l) (hs : a.eval s = v) {gx : Nat} (hx : a.eval x = .slice (some ⟨gx, 0, none⟩) 1 1) (hgx : gx = X.heap.size)
    (hlen : l.length ≤ 1000000) (hbase : base ≤ X.heap.size)
    (h : ∀ v' w', OwnU w' base v' (l ++ [y]) → Below base X w' → X.grownBy w' v.ownBlock → (v'.ownBlock = v.ownBlock ∨ ∀ k, v'.ownBlock = some k → X.heap.size ≤ k) → wpList Tryd.prog ops Q rest (a.put o.dst v') w') :
    wpList Tryd.prog ops Q (o :: rest) a (X.alloc (.cells #[.int .u64 (y : Int)] 70)) := by
  subst hgx
  obtain ⟨i0, hi, hz0, hz1, hz2⟩ := info_parts info_u64
  have hbX : ∀ w', (X.alloc (.cells #[.int .u64 (y : Int)] 70)).grownBy w' v.ownBlock → Below base X w' ∧ X.grownBy w' v.ownBlock := fun w' hg =>
    ⟨((Below.refl base X).alloc hbase _).grown hg (by simp; omega) (fun k hk => ((World.ownsRow.alloc hown (.cells #[.int .u64 (y : Int)] 70)).lt k hk).1),
     ⟨hg.os, hg.tape, hg.output, Nat.le_trans (by simp) hg.size, fun k hk hne => (hg.block k (by simp; omega) hne).trans (Below.heap_alloc _ _ _ hk)⟩⟩
  have hgrow : ∀ (A : Option Addr) (cap : Nat), v = .slice A l.length cap → (A = none → l.length = 0 ∧ cap = 0) → cap < l.length + 1 → wpList Tryd.prog ops Q (o :: rest) a (X.alloc (.cells #[.int .u64 (y : Int)] 70)) := by
    intro A cap hv hA hfull
    have hA2 : ∀ b, A = some b → ∀ j u, (l.map vU)[j]? = some u → (X.alloc (.cells #[.int .u64 (y : Int)] 70)).cell? (b.add j) = some u := by
      intro b hb j u hj
      rcases hown.2 with ⟨e, hn⟩ | ⟨g, cp, cur, e, hg, r⟩
      · rw [hv, hb] at e; cases e
      · have hc := (World.ownsRow.alloc hown (.cells #[.int .u64 (y : Int)] 70)).cells (g := g) (by rw [e]; rfl) j u hj
        rw [hv, hb] at e
        injection e with e _ _
        injection e with e
        rw [e]; exact hc
    refine wpList_append_grows (X.alloc (.cells #[.int .u64 (y : Int)] 70)) hgd s x 68 ho 70 i0 (.int .u64 0) 1 8 Tryd.underlying68 hi hz0 hz1 hz2 rfl (by decide) A l.length cap (l.map vU) (by rw [hs, hv]) hA (by simp) hA2
      ⟨X.heap.size, 0, none⟩ 1 1 [.int .u64 (y : Int)] hx rfl (new_cell _ _ _) (by intro u hu; simp at hu; subst hu; rfl) hfull (by unfold maxLen; omega) (by omega) ?_
    intro v' w1 hown' hg
    have hsz : X.heap.size + 1 = (X.alloc (.cells #[.int .u64 (y : Int)] 70)).heap.size := by simp
    have hg2 : (X.alloc (.cells #[.int .u64 (y : Int)] 70)).grownBy w1 v.ownBlock := ⟨hg.os, hg.tape, hg.output, hg.size, fun k hk _ => hg.block k hk (by simp)⟩
    obtain ⟨h1, h2⟩ := hbX w1 hg2
    have ho' : OwnU w1 (X.alloc (.cells #[.int .u64 (y : Int)] 70)).heap.size v' (l ++ [y]) := by unfold OwnU; rw [List.length_append, List.map_append]; exact hown'
    exact h v' w1 (ho'.mono (by omega)) h1 h2 (.inr fun k hk => by have := (World.ownsRow.lt ho' k hk).1; omega)
  rcases hown.2 with ⟨e, hn⟩ | ⟨g, cap, cur, e, hg, hh, hn, hcap, hrest⟩
  · exact hgrow none 0 (by rw [e, hn]) (fun _ => ⟨hn, rfl⟩) (by omega)
  · by_cases hroom : l.length + 1 ≤ cap
    · subst e
      refine wpList_append_fits _ hgd s x 68 ho base 70 i0 1 Tryd.underlying68 hi hz1 g l.length cap (l.map vU) hs (World.ownsRow.alloc hown _) ⟨X.heap.size, 0, none⟩ 1 1 [.int .u64 (y : Int)] hx rfl (new_cell _ _ _)
        (by intro u hu; simp at hu; subst hu; rfl) hroom ?_
      intro w1 hown' hg'
      obtain ⟨h1, h2⟩ := hbX w1 hg'
      refine h _ w1 ?_ h1 h2 (.inl rfl)
      unfold OwnU; rw [List.length_append, List.map_append]; exact hown'
    · exact hgrow _ cap e (fun h => by cases h) (by omega)


theorem OwnI.farC {w : World} {B : Nat} {v : Value} {l : List Int} (h : OwnI w B v l) {a : Addr} (ha : a.block < B) (u : Value) : OwnI (w.setCell a u) B v l :=
  ownsRow_setCell_below h ha u
theorem OwnU.farC {w : World} {B : Nat} {v : Value} {l : List Nat} (h : OwnU w B v l) {a : Addr} (ha : a.block < B) (u : Value) : OwnU (w.setCell a u) B v l :=
  ownsRow_setCell_below h ha u
theorem OwnI.capC {w : World} {b : Nat} {A : Option Addr} {n c : Nat} {l : List Int} (h : OwnI w b (.slice A n c) l) : l.length ≤ c := by
  obtain ⟨h1, h2⟩ := h
  rcases h2 with ⟨e, hn⟩ | ⟨g, cap, cur, e, hg, hh, hn, r⟩
  · omega
  · injection e with _ _ e; omega
/-- new blocks, and writes to the blocks in question -/
structure Mut (H : Nat → Prop) (w w' : World) : Prop where
  os : w'.os = w.os
  tape : w'.tape = w.tape
  output : w'.output = w.output
  size : w.heap.size ≤ w'.heap.size
  block : ∀ k, k < w.heap.size → ¬ H k → w'.heap[k]? = w.heap[k]?
theorem Mut.refl (H : Nat → Prop) (w : World) : Mut H w w := ⟨rfl, rfl, rfl, Nat.le_refl _, fun _ _ _ => rfl⟩
theorem Mut.trans {H K : Nat → Prop} {a b c : World} (h : Mut H a b) (k : Mut K b c) (hK : ∀ i, i < a.heap.size → K i → H i) : Mut H a c :=
  ⟨k.os.trans h.os, k.tape.trans h.tape, k.output.trans h.output, Nat.le_trans h.size k.size, fun i hi hn => (k.block i (Nat.lt_of_lt_of_le hi h.size) (fun e => hn (hK i hi e))).trans (h.block i hi hn)⟩
theorem Mut.of_below {H : Nat → Prop} {a b : World} (h : Below a.heap.size a b) : Mut H a b := ⟨h.os, h.tape, h.output, h.size, fun k hk _ => h.block k hk⟩
theorem Mut.of_grown {H : Nat → Prop} {a b : World} {r : Option Nat} (h : a.grownBy b r) (hr : ∀ k, r = some k → H k) : Mut H a b :=
  ⟨h.os, h.tape, h.output, h.size, fun k hk hn => h.block k hk (fun e => hn (hr k e.symm))⟩
theorem Mut.setCell {H : Nat → Prop} {a b : World} (h : Mut H a b) {q : Addr} (hq : H q.block) (u : Value) : Mut H a (b.setCell q u) :=
  ⟨h.os, h.tape, h.output, by simpa [World.setCell] using h.size, fun k hk hn => (Below.heap_setCell b q u k (fun e => hn (e ▸ hq))).trans (h.block k hk hn)⟩
theorem Mut.drew {H : Nat → Prop} {a b : World} (h : Mut H a b) : Mut H a b.drew := ⟨h.os, h.tape, h.output, h.size, h.block⟩
theorem Mut.drewN {H : Nat → Prop} {a b : World} (h : Mut H a b) (q : Nat) : Mut H a (b.drewN q) := ⟨h.os, h.tape, h.output, h.size, h.block⟩
theorem Mut.below {H : Nat → Prop} {a b : World} {B : Nat} (h : Mut H a b) (hB : B ≤ a.heap.size) (hH : ∀ k, k < B → ¬ H k) : Below B a b :=
  ⟨h.os, h.tape, h.output, h.size, fun k hk => h.block k (by omega) (hH k hk)⟩

/-- the search's memory: block p the struct, gN the masks, gO and gL the numbers, vS the stack, vF what is found -/
structure TjSt (B n : Nat) (m : Nat → Nat) (p gN gO gL : Nat) (s : TS) (vS vF : Value) (w : World) : Prop where
  hd : Blk w p 72 #[.slice (some ⟨gN, 0, none⟩) n n, .slice (some ⟨gO, 0, none⟩) n n, .slice (some ⟨gL, 0, none⟩) n n, .int .i64 (s.ct : Nat), vS, .int .u64 (s.on : Nat), vF]
  nx : w.rowIs gN 70 n (fun i => .int .u64 (m i : Nat))
  o : Row w gO n (fun i => (s.o i : Nat))
  lo : Row w gL n (fun i => (s.lo i : Nat))
  st : OwnI w B vS (s.S.map Int.ofNat)
  fd : OwnU w B vF s.F
  far : Far vS vF
  hp : p < B
  hN : gN < B
  hO : gO < B
  hL : gL < B
  hB : B ≤ w.heap.size
  pN : p ≠ gN
  pO : p ≠ gO
  pL : p ≠ gL
  NO : gN ≠ gO
  NL : gN ≠ gL
  OL : gO ≠ gL
def TjHot (p gO gL : Nat) (vS vF : Value) (k : Nat) : Prop := k = p ∨ k = gO ∨ k = gL ∨ vS.ownBlock = some k ∨ vF.ownBlock = some k
section
variable {B n : Nat} {m : Nat → Nat} {p gN gO gL : Nat} {s : TS} {vS vF : Value} {w : World}
theorem TjSt.facts (h : TjSt B n m p gN gO gL s vS vF w) : w.cell? ⟨p, 0, none⟩ = some (.slice (some ⟨gN, 0, none⟩) n n) ∧ w.cell? ⟨p, 1, none⟩ = some (.slice (some ⟨gO, 0, none⟩) n n) ∧ w.cell? ⟨p, 2, none⟩ = some (.slice (some ⟨gL, 0, none⟩) n n) ∧ w.cell? ⟨p, 3, none⟩ = some (.int .i64 (s.ct : Nat)) ∧
    w.cell? ⟨p, 4, none⟩ = some vS ∧ w.cell? ⟨p, 5, none⟩ = some (.int .u64 (s.on : Nat)) ∧ w.cell? ⟨p, 6, none⟩ = some vF ∧ (∀ i, w.frozen? ⟨p, i, none⟩ = false) :=
  ⟨by rw [h.hd.cell]; rfl, by rw [h.hd.cell]; rfl, by rw [h.hd.cell]; rfl, by rw [h.hd.cell]; rfl, by rw [h.hd.cell]; rfl, by rw [h.hd.cell]; rfl, by rw [h.hd.cell]; rfl, fun i => h.hd.frozen i⟩
/-- a store into the struct -/
theorem TjSt.head (h : TjSt B n m p gN gO gL s vS vF w) {s' : TS} {vS' vF' : Value} (i : Nat) (u : Value)
    (hc : (#[Value.slice (some ⟨gN, 0, none⟩) n n, .slice (some ⟨gO, 0, none⟩) n n, .slice (some ⟨gL, 0, none⟩) n n, .int .i64 (s.ct : Nat), vS, .int .u64 (s.on : Nat), vF] : Array Value).setIfInBounds i u = #[.slice (some ⟨gN, 0, none⟩) n n, .slice (some ⟨gO, 0, none⟩) n n, .slice (some ⟨gL, 0, none⟩) n n, .int .i64 (s'.ct : Nat), vS', .int .u64 (s'.on : Nat), vF'])
    (ho : s'.o = s.o) (hl : s'.lo = s.lo) (hS : OwnI (w.setCell ⟨p, i, none⟩ u) B vS' (s'.S.map Int.ofNat)) (hF : OwnU (w.setCell ⟨p, i, none⟩ u) B vF' s'.F) (hf : Far vS' vF') : TjSt B n m p gN gO gL s' vS' vF' (w.setCell ⟨p, i, none⟩ u) :=
  { hd := by rw [← hc]; exact h.hd.set_ i u
    nx := World.rowIs.setOther h.nx h.pN.symm u
    o := by rw [ho]; exact h.o.far h.pO.symm u
    lo := by rw [hl]; exact h.lo.far h.pL.symm u
    st := hS, fd := hF, far := hf, hp := h.hp, hN := h.hN, hO := h.hO, hL := h.hL, hB := by simpa [World.setCell] using h.hB, pN := h.pN, pO := h.pO, pL := h.pL, NO := h.NO, NL := h.NL, OL := h.OL }
theorem OwnU.farB {w : World} {B : Nat} {v : Value} {l : List Nat} (h : OwnU w B v l) {a : Addr} (ha : a.block < B) (u : Value) : OwnU (w.setCell a u) B v l :=
  ownsRow_setCell_below h ha u
theorem TjSt.count (h : TjSt B n m p gN gO gL s vS vF w) (c : Nat) : TjSt B n m p gN gO gL { s with ct := c } vS vF (w.setCell ⟨p, 3, none⟩ (.int .i64 (c : Nat))) :=
  h.head (s' := { s with ct := c }) 3 (.int .i64 (c : Nat)) rfl rfl rfl (h.st.farC h.hp _) (h.fd.farB h.hp _) h.far
theorem TjSt.onto (h : TjSt B n m p gN gO gL s vS vF w) (c : Nat) : TjSt B n m p gN gO gL { s with on := c } vS vF (w.setCell ⟨p, 5, none⟩ (.int .u64 (c : Nat))) :=
  h.head (s' := { s with on := c }) 5 (.int .u64 (c : Nat)) rfl rfl rfl (h.st.farC h.hp _) (h.fd.farB h.hp _) h.far
theorem TjSt.order (h : TjSt B n m p gN gO gL s vS vF w) (i c : Nat) : TjSt B n m p gN gO gL { s with o := updF s.o i c } vS vF (w.setCell ⟨gO, i, none⟩ (.int .i64 (c : Nat))) :=
  { hd := h.hd.far h.pO _
    nx := World.rowIs.setOther h.nx h.NO _
    o := (h.o.set i (c : Nat)).congr fun j _ => by show _ = ((updF s.o i c j : Nat) : Int); unfold upd updF; split <;> rfl
    lo := h.lo.far h.OL.symm _
    st := h.st.farC h.hO _, fd := h.fd.farB h.hO _, far := h.far, hp := h.hp, hN := h.hN, hO := h.hO, hL := h.hL, hB := by simpa [World.setCell] using h.hB, pN := h.pN, pO := h.pO, pL := h.pL, NO := h.NO, NL := h.NL, OL := h.OL }
theorem TjSt.lower (h : TjSt B n m p gN gO gL s vS vF w) (i c : Nat) : TjSt B n m p gN gO gL (s.setLo i c) vS vF (w.setCell ⟨gL, i, none⟩ (.int .i64 (c : Nat))) :=
  { hd := h.hd.far h.pL _
    nx := World.rowIs.setOther h.nx h.NL _
    o := h.o.far h.OL _
    lo := (h.lo.set i (c : Nat)).congr fun j _ => by show _ = ((updF s.lo i c j : Nat) : Int); unfold upd updF; split <;> rfl
    st := h.st.farC h.hL _, fd := h.fd.farB h.hL _, far := h.far, hp := h.hp, hN := h.hN, hO := h.hO, hL := h.hL, hB := by simpa [World.setCell] using h.hB, pN := h.pN, pO := h.pO, pL := h.pL, NO := h.NO, NL := h.NL, OL := h.OL }
theorem TjSt.drew (h : TjSt B n m p gN gO gL s vS vF w) : TjSt B n m p gN gO gL s vS vF w.drew :=
  { hd := h.hd.drewN 1, nx := World.rowIs.drew h.nx, o := World.rowIs.drew h.o, lo := World.rowIs.drew h.lo, st := World.ownsRow.drew h.st, fd := World.ownsRow.drew h.fd, far := h.far, hp := h.hp, hN := h.hN, hO := h.hO, hL := h.hL, hB := h.hB, pN := h.pN, pO := h.pO, pL := h.pL, NO := h.NO, NL := h.NL, OL := h.OL }
theorem TjSt.drewN (h : TjSt B n m p gN gO gL s vS vF w) : ∀ q, TjSt B n m p gN gO gL s vS vF (w.drewN q)
  | 0 => h
  | q + 1 => TjSt.drew (TjSt.drewN h q)
/-- only new blocks -/
theorem TjSt.below (h : TjSt B n m p gN gO gL s vS vF w) {w' : World} (hb : Below w.heap.size w w') : TjSt B n m p gN gO gL s vS vF w' :=
  { hd := h.hd.below hb (Nat.lt_of_lt_of_le h.hp h.hB), nx := rowIs_new h.nx hb, o := rowIs_new h.o hb, lo := rowIs_new h.lo hb, st := OwnI.below h.st hb,
    fd := World.ownsRow.kept h.fd (row := none) ⟨hb.os, hb.tape, hb.output, hb.size, fun k hk _ => hb.block k hk⟩ (by cases vF.ownBlock <;> simp),
    far := h.far, hp := h.hp, hN := h.hN, hO := h.hO, hL := h.hL, hB := Nat.le_trans h.hB hb.size, pN := h.pN, pO := h.pO, pL := h.pL, NO := h.NO, NL := h.NL, OL := h.OL }
theorem rowIs_heap {w w' : World} {g n : Nat} {t : TypeId} {f : Nat → Value} (h : w.rowIs g t n f) (e : w'.heap[g]? = w.heap[g]?) : w'.rowIs g t n f := by
  obtain ⟨c, h1, h2, h3⟩ := h
  exact ⟨c, e.trans h1, h2, h3⟩
theorem OwnU.block {w : World} {b : Nat} {v : Value} {l : List Nat} (h : OwnU w b v l) : ∀ k, v.ownBlock = some k → b ≤ k ∧ k < w.heap.size := fun k hk => World.ownsRow.lt h k hk
theorem OwnI.blocks {w : World} {b : Nat} {v : Value} {l : List Int} (h : OwnI w b v l) : ∀ k, v.ownBlock = some k → b ≤ k ∧ k < w.heap.size := fun k hk => World.ownsRow.lt h k hk
/-- an append to the stack, and its store -/
theorem TjSt.push (h : TjSt B n m p gN gO gL s vS vF w) {w' : World} {v' : Value} {S' : List Nat} (ho : OwnI w' B v' (S'.map Int.ofNat)) (hg : w.grownBy w' vS.ownBlock) (hv : v'.ownBlock = vS.ownBlock ∨ ∀ k, v'.ownBlock = some k → w.heap.size ≤ k) :
    TjSt B n m p gN gO gL { s with S := S' } v' vF (w'.setCell ⟨p, 4, none⟩ v') := by
  have hlo := fun k hk => (OwnI.blocks h.st k hk).1
  have hk : ∀ k, k < B → w'.heap[k]? = w.heap[k]? := fun k hk => hg.block k (Nat.lt_of_lt_of_le hk h.hB) (fun e => by have := hlo k e.symm; omega)
  have hfd : OwnU w' B vF s.F := World.ownsRow.kept h.fd hg (by
    cases hu : vF.ownBlock with
    | none => exact .inl rfl
    | some k => exact .inr (fun e => h.far k e.symm hu))
  exact {
    hd := (show Blk w' p _ _ from (hk p h.hp).trans h.hd).set_ 4 v'
    nx := World.rowIs.setOther (rowIs_heap h.nx (hk gN h.hN)) h.pN.symm _
    o := Row.far (rowIs_heap h.o (hk gO h.hO)) h.pO.symm _
    lo := Row.far (rowIs_heap h.lo (hk gL h.hL)) h.pL.symm _
    st := ho.farC h.hp _
    fd := hfd.farB h.hp _
    far := fun k hk e => by
      rcases hv with hv | hv
      · exact h.far k (by rw [← hv]; exact hk) e
      · have := hv k hk; have := (OwnU.block h.fd k e).2; omega
    hp := h.hp, hN := h.hN, hO := h.hO, hL := h.hL, hB := by simpa [World.setCell] using Nat.le_trans h.hB hg.size, pN := h.pN, pO := h.pO, pL := h.pL, NO := h.NO, NL := h.NL, OL := h.OL }
/-- an append to what is found, and its store -/
theorem TjSt.find (h : TjSt B n m p gN gO gL s vS vF w) {w' : World} {v' : Value} {F' : List Nat} (ho : OwnU w' B v' F') (hg : w.grownBy w' vF.ownBlock) (hv : v'.ownBlock = vF.ownBlock ∨ ∀ k, v'.ownBlock = some k → w.heap.size ≤ k) :
    TjSt B n m p gN gO gL { s with F := F' } vS v' (w'.setCell ⟨p, 6, none⟩ v') := by
  have hlo := fun k hk => (OwnU.block h.fd k hk).1
  have hk : ∀ k, k < B → w'.heap[k]? = w.heap[k]? := fun k hk => hg.block k (Nat.lt_of_lt_of_le hk h.hB) (fun e => by have := hlo k e.symm; omega)
  have hst : OwnI w' B vS (s.S.map Int.ofNat) := World.ownsRow.kept h.st hg (by
    cases hu : vS.ownBlock with
    | none => exact .inl rfl
    | some k => exact .inr (fun e => h.far k hu e.symm))
  exact {
    hd := (show Blk w' p _ _ from (hk p h.hp).trans h.hd).set_ 6 v'
    nx := World.rowIs.setOther (rowIs_heap h.nx (hk gN h.hN)) h.pN.symm _
    o := Row.far (rowIs_heap h.o (hk gO h.hO)) h.pO.symm _
    lo := Row.far (rowIs_heap h.lo (hk gL h.hL)) h.pL.symm _
    st := hst.farC h.hp _
    fd := ho.farC h.hp _
    far := fun k hk e => by
      rcases hv with hv | hv
      · exact h.far k hk (by rw [← hv]; exact e)
      · have := hv k e; have := (OwnI.blocks h.st k hk).2; omega
    hp := h.hp, hN := h.hN, hO := h.hO, hL := h.hL, hB := by simpa [World.setCell] using Nat.le_trans h.hB hg.size, pN := h.pN, pO := h.pO, pL := h.pL, NO := h.NO, NL := h.NL, OL := h.OL }
/-- the stack without its last element -/
theorem TjSt.cut (h : TjSt B n m p gN gO gL s vS vF w) {S' : List Nat} {x : Nat} (hS : s.S = S' ++ [x]) : ∃ g c, vS = .slice (some ⟨g, 0, none⟩) (S'.length + 1) c ∧ S'.length + 1 ≤ c ∧ w.cell? ⟨g, S'.length, none⟩ = some (.int .i64 (x : Nat)) ∧
    TjSt B n m p gN gO gL { s with S := S' } (.slice (some ⟨g, 0, none⟩) S'.length c) vF (w.setCell ⟨p, 4, none⟩ (.slice (some ⟨g, 0, none⟩) S'.length c)) := by
  have hst := h.st
  rw [hS, List.map_append] at hst
  obtain ⟨A, c, rfl, hri, hnn⟩ := hst.form
  have hlen : (S'.map Int.ofNat ++ [x].map Int.ofNat).length = S'.length + 1 := by simp
  obtain ⟨g, rfl, hg1, hg2, _⟩ := hst.pos (by omega)
  have hcap := hst.capC
  have hc := hst.cellAt (k := S'.length) (by omega)
  rw [hlen] at hcap hst ⊢
  refine ⟨g, c, rfl, hcap, ?_, ?_⟩
  · rw [hc]
    have : (S'.map Int.ofNat ++ [x].map Int.ofNat).getD S'.length 0 = (x : Int) := by simp [List.getD]
    rw [this]
  · have hpop : OwnI w B (.slice (some ⟨g, 0, none⟩) S'.length c) (S'.map Int.ofNat) := by
      unfold OwnI at hst ⊢
      have := ownsRow_pop (size := 1) (xs := (S'.map Int.ofNat).map (Value.int .i64)) (last := ([x].map Int.ofNat).map (Value.int .i64)) (n := S'.length) (by simp) (by rw [hlen, List.map_append] at hst; exact hst)
      simpa using this
    refine h.head (s' := { s with S := S' }) 4 _ ?_ rfl rfl (hpop.farC h.hp _) (h.fd.farB h.hp _) ?_
    · rfl
    · intro k hk
      exact h.far k (by simpa [Value.ownBlock] using hk)
end
theorem TxtT.three {P : Program} {ops : Array Oper} {Q : Exit → Act → World → Prop} {S : World → Prop} {es : List Nat} {n : Nat} {L : List Nat} {J : World → Prop} {a : Act} (i k q : Nat) {o o2 o3 : Oper} (hL : L.filter (readyIn ops L) = [i, k, q]) (ho : ops[i]? = some o) (ho2 : ops[k]? = some o2) (ho3 : ops[q]? = some o3) (he : es.contains i = true) (he2 : es.contains k = true) (he3 : es.contains q = true) (hw : Region.wanted o (yielded ops a.tmps) = true) (hw2 : Region.wanted o2 (yielded ops a.tmps) = true) (hw3 : Region.wanted o3 (yielded ops a.tmps) = true)
    (Sh : Value → Prop) (J' : Value → World → Prop) (Sh2 : Value → Prop) (J2 : Value → World → Prop) (Sh3 : Value → Prop) (J3 : Value → World → Prop) (h : ∀ w, S w → J w → Eff P o a w fun v w' => S w' ∧ Sh v ∧ J' v w') (h2 : ∀ w, S w → J w → Eff P o2 a w fun v w' => S w' ∧ Sh2 v ∧ J2 v w') (h3 : ∀ w, S w → J w → Eff P o3 a w fun v w' => S w' ∧ Sh3 v ∧ J3 v w')
    (hr : ∀ v, Sh v → TxtT P ops Q S es n (L.erase i) (J' v) (a.put o.dst v)) (hr2 : ∀ v, Sh2 v → TxtT P ops Q S es n (L.erase k) (J2 v) (a.put o2.dst v)) (hr3 : ∀ v, Sh3 v → TxtT P ops Q S es n (L.erase q) (J3 v) (a.put o3.dst v)) : TxtT P ops Q S es (n + 1) L J a := by
  have hm : ∀ j ∈ L, readyIn ops L j = true → j = i ∨ j = k ∨ j = q := fun j hj hrj => by
    have : j ∈ L.filter (readyIn ops L) := List.mem_filter.2 ⟨hj, hrj⟩
    rw [hL] at this
    simpa using this
  refine .inr ⟨fun e => by subst e; simp at hL, fun j hj hrj => ?_, fun j hj hrj => ?_⟩
  · rcases hm j hj hrj with h | h | h <;> rw [h] <;> assumption
  · rcases hm j hj hrj with e | e | e
    · rw [e]; exact ⟨o, ho, hw, Sh, J', h, hr⟩
    · rw [e]; exact ⟨o2, ho2, hw2, Sh2, J2, h2, hr2⟩
    · rw [e]; exact ⟨o3, ho3, hw3, Sh3, J3, h3, hr3⟩

theorem bit_one (m k : Nat) (h : m < 18446744073709551616) : bits .and .u64 ((m : Int) / 2 ^ k) 1 = ((if m.testBit k then 1 else 0 : Nat) : Int) := by
  have h2 : m >>> k < 18446744073709551616 := Nat.lt_of_le_of_lt (by rw [Nat.shiftRight_eq_div_pow]; exact Nat.div_le_self _ _) h
  rw [u64_shr, ← shr_and_one]
  exact u64_and_nat (m >>> k) 1 h2 (by omega)
theorem bit_yes {m k : Nat} (h : m < 18446744073709551616) (hb : has m k) : bits .and .u64 ((m : Int) / 2 ^ k) 1 = 1 := by
  rw [bit_one m k h, if_pos (show m.testBit k = true from hb)]; rfl
theorem bit_no {m k : Nat} (h : m < 18446744073709551616) (hb : ¬ has m k) : bits .and .u64 ((m : Int) / 2 ^ k) 1 = 0 := by
  rw [bit_one m k h, if_neg (show ¬ m.testBit k = true from hb)]; rfl
theorem lt_or_one {z k : Nat} (h : ¬ has z k) : z < z ||| 1 <<< k := by
  refine Nat.lt_of_le_of_ne Nat.left_le_or fun e => h ?_
  rw [e, has_or]; exact .inr (has_one.2 rfl)
theorem Tab.mu {H : Nat → Prop} {w w' : World} (h : Tab w) (hm : Mut H w w') (hn : ¬ H 0) : Tab w' := fun j hj => by
  have hlt := lt_of_cell (h j hj)
  rw [← h j hj]
  exact World.cell?_of_block (w := w) (hm.block _ hlt hn)
theorem OwnI.mu {H : Nat → Prop} {w w' : World} {b : Nat} {v : Value} {l : List Int} (h : OwnI w b v l) (hm : Mut H w w') (hn : ∀ k, v.ownBlock = some k → ¬ H k) : OwnI w' b v l := by
  have hlt := fun k hk => (OwnI.blocks h k hk).2
  obtain ⟨h1, h2⟩ := h
  refine ⟨h1, ?_⟩
  rcases h2 with h2 | ⟨g, cap, cur, hv, hg, hh, r⟩
  · exact .inl h2
  · have hk : v.ownBlock = some g := by rw [hv]; rfl
    exact .inr ⟨g, cap, cur, hv, hg, (hm.block g (hlt g hk) (hn g hk)).trans hh, r⟩

/-- a round of the search: the first q neighbours are done -/
structure TjLp (B n : Nat) (l : List (Int × Int)) (p gN gO gL : Nat) (G : List Nat) (s : TS) (vS vF : Value) (i : Nat) (w : World) (b5 : Nat) (V5 : Value) (ks : List Int) (q : Nat) (s1 : TS) (v1 u1 : Value) (wr : World) : Prop where
  st : TjSt B n (mkM l) p gN gO gL s1 v1 u1 wr
  lp : TLoop n (att l) G s i ((ks.take q).map Int.toNat) s1
  mu : Mut (TjHot p gO gL vS vF) w wr
  hS : ∀ k, v1.ownBlock = some k → vS.ownBlock = some k ∨ w.heap.size ≤ k
  hF : ∀ k, u1.ownBlock = some k → vF.ownBlock = some k ∨ w.heap.size ≤ k
  own : OwnI wr b5 V5 ks
  hb5 : B ≤ b5
  f1 : Far v1 V5
  f2 : Far u1 V5
section
variable {B n : Nat} {l : List (Int × Int)} {p gN gO gL : Nat} {G : List Nat} {s : TS} {vS vF : Value} {i : Nat} {w : World} {b5 : Nat} {V5 : Value} {ks : List Int} {q : Nat} {s1 : TS} {v1 u1 : Value} {wr : World}
theorem take_toNat {ks : List Int} {q a : Nat} (hq : q < ks.length) (ha : ks[q] = (a : Int)) : (ks.take (q + 1)).map Int.toNat = (ks.take q).map Int.toNat ++ [a] := by
  rw [List.take_succ_eq_append_getElem hq, List.map_append, ha]; rfl
theorem TjLp.cold (h : TjLp B n l p gN gO gL G s vS vF i w b5 V5 ks q s1 v1 u1 wr) : ∀ k, V5.ownBlock = some k → ¬ TjHot p gO gL v1 u1 k := fun k hk hh => by
  have hb := (OwnI.blocks h.own k hk).1
  have h5 := h.hb5; have hp := h.st.hp; have hO := h.st.hO; have hL := h.st.hL
  rcases hh with e | e | e | e | e
  · omega
  · omega
  · omega
  · exact h.f1 k e hk
  · exact h.f2 k e hk
theorem TjLp.down (h : TjLp B n l p gN gO gL G s vS vF i w b5 V5 ks q s1 v1 u1 wr) : ∀ k, k < w.heap.size → TjHot p gO gL v1 u1 k → TjHot p gO gL vS vF k := fun k hk hh => by
  rcases hh with e | e | e | e | e
  · exact .inl e
  · exact .inr (.inl e)
  · exact .inr (.inr (.inl e))
  · rcases h.hS k e with e | e
    · exact .inr (.inr (.inr (.inl e)))
    · omega
  · rcases h.hF k e with e | e
    · exact .inr (.inr (.inr (.inr e)))
    · omega
/-- the cell low of i gets a new value -/
theorem TjLp.lower (h : TjLp B n l p gN gO gL G s vS vF i w b5 V5 ks q s1 v1 u1 wr) {q' c : Nat} (hl : TLoop n (att l) G s i ((ks.take q').map Int.toNat) (s1.setLo i c)) : TjLp B n l p gN gO gL G s vS vF i w b5 V5 ks q' (s1.setLo i c) v1 u1 (wr.setCell ⟨gL, i, none⟩ (.int .i64 (c : Nat))).drew :=
  { st := (h.st.lower i c).drew, lp := hl, mu := (h.mu.setCell (.inr (.inr (.inl rfl))) _).drew, hS := h.hS, hF := h.hF
    own := World.ownsRow.drew (OwnI.farC h.own (a := ⟨gL, i, none⟩) (Nat.lt_of_lt_of_le h.st.hL h.hb5) _), hb5 := h.hb5, f1 := h.f1, f2 := h.f2 }
/-- a neighbour has been visited -/
theorem TjLp.visit (h : TjLp B n l p gN gO gL G s vS vF i w b5 V5 ks q s1 v1 u1 wr) {s2 : TS} {v2 u2 : Value} {w6 : World} (hst2 : TjSt B n (mkM l) p gN gO gL s2 v2 u2 w6) (hm2 : Mut (TjHot p gO gL v1 u1) wr w6) (hv2 : ∀ k, v2.ownBlock = some k → v1.ownBlock = some k ∨ wr.heap.size ≤ k) (hu2 : ∀ k, u2.ownBlock = some k → u1.ownBlock = some k ∨ wr.heap.size ≤ k) {q' c : Nat} (hl : TLoop n (att l) G s i ((ks.take q').map Int.toNat) (s2.setLo i c)) :
    TjLp B n l p gN gO gL G s vS vF i w b5 V5 ks q' (s2.setLo i c) v2 u2 (w6.setCell ⟨gL, i, none⟩ (.int .i64 (c : Nat))).drew := by
  have hlt := fun k hk => (OwnI.blocks h.own k hk).2
  have hown : OwnI w6 b5 V5 ks := OwnI.mu h.own hm2 h.cold
  refine { st := (hst2.lower i c).drew, lp := hl, mu := ((h.mu.trans hm2 h.down).setCell (.inr (.inr (.inl rfl))) _).drew, hS := fun k hk => ?_, hF := fun k hk => ?_
           own := World.ownsRow.drew (OwnI.farC hown (a := ⟨gL, i, none⟩) (Nat.lt_of_lt_of_le h.st.hL h.hb5) _), hb5 := h.hb5, f1 := fun k hk e => ?_, f2 := fun k hk e => ?_ }
  · rcases hv2 k hk with e | e
    · exact h.hS k e
    · exact .inr (Nat.le_trans h.mu.size e)
  · rcases hu2 k hk with e | e
    · exact h.hF k e
    · exact .inr (Nat.le_trans h.mu.size e)
  · rcases hv2 k hk with e' | e'
    · exact h.f1 k e' e
    · have := hlt k e; omega
  · rcases hu2 k hk with e' | e'
    · exact h.f2 k e' e
    · have := hlt k e; omega
end
theorem snoc_cases (Q : List Nat) : Q = [] ∨ ∃ Q' k, Q = Q' ++ [k] := by
  rcases h : Q.reverse with _ | ⟨k, r⟩
  · exact .inl (List.reverse_eq_nil_iff.1 h)
  · exact .inr ⟨r.reverse, k, by rw [← List.reverse_cons, ← h, List.reverse_reverse]⟩
theorem tail_mem {i : Nat} {T Q P : List Nat} (h : i :: T = Q ++ P) (hQ : Q ≠ []) : ∀ x ∈ P, x ∈ T := fun x hx => by
  cases Q with
  | nil => exact absurd rfl hQ
  | cons a Q =>
    injection h with _ h
    rw [h]; exact List.mem_append_right _ hx
/-- the component is taken from the stack: Q is left, P has been taken -/
structure TjPp (B n : Nat) (l : List (Int × Int)) (p gN gO gL : Nat) (s : TS) (vS vF : Value) (i : Nat) (T : List Nat) (w : World) (s1 : TS) (Q P : List Nat) (z : Nat) (v1 u1 : Value) (wr : World) : Prop where
  st : TjSt B n (mkM l) p gN gO gL { s1 with S := s.S ++ Q } v1 u1 wr
  eq : i :: T = Q ++ P
  set : ∀ x, has z x ↔ x ∈ P
  lt : z < 2 ^ n
  mu : Mut (TjHot p gO gL vS vF) w wr
  hS : ∀ k, v1.ownBlock = some k → vS.ownBlock = some k ∨ w.heap.size ≤ k
  hF : ∀ k, u1.ownBlock = some k → vF.ownBlock = some k ∨ w.heap.size ≤ k
theorem TjPp.drewN {B n : Nat} {l : List (Int × Int)} {p gN gO gL : Nat} {s : TS} {vS vF : Value} {i : Nat} {T : List Nat} {w : World} {s1 : TS} {Q P : List Nat} {z : Nat} {v1 u1 : Value} {wr : World} (h : TjPp B n l p gN gO gL s vS vF i T w s1 Q P z v1 u1 wr) (q : Nat) : TjPp B n l p gN gO gL s vS vF i T w s1 Q P z v1 u1 (wr.drewN q) :=
  { h with st := h.st.drewN q, mu := h.mu.drewN q }
theorem TjPp.next {B n : Nat} {l : List (Int × Int)} {p gN gO gL : Nat} {s : TS} {vS vF : Value} {i : Nat} {T : List Nat} {w : World} {s1 : TS} {Q P : List Nat} {z k : Nat} {v1 u1 : Value} {wr : World} (h : TjPp B n l p gN gO gL s vS vF i T w s1 (Q ++ [k]) P z v1 u1 wr) (hk : k < n) : ∃ g c, v1 = .slice (some ⟨g, 0, none⟩) ((s.S ++ Q).length + 1) c ∧ (s.S ++ Q).length + 1 ≤ c ∧ wr.cell? ⟨g, (s.S ++ Q).length, none⟩ = some (.int .i64 (k : Nat)) ∧
    TjPp B n l p gN gO gL s vS vF i T w s1 Q (k :: P) (z ||| 1 <<< k) (.slice (some ⟨g, 0, none⟩) (s.S ++ Q).length c) u1 (wr.setCell ⟨p, 4, none⟩ (.slice (some ⟨g, 0, none⟩) (s.S ++ Q).length c)) := by
  obtain ⟨g, c, rfl, hc, hcell, hst⟩ := h.st.cut (S' := s.S ++ Q) (x := k) (by simp)
  refine ⟨g, c, rfl, hc, hcell, { st := hst, eq := by rw [h.eq]; simp, set := fun x => ?_, lt := or_lt h.lt (one_lt hk), mu := h.mu.setCell (.inl rfl) _, hS := fun k' hk' => h.hS k' (by simpa [Value.ownBlock] using hk'), hF := h.hF }⟩
  rw [has_or, has_one, h.set, List.mem_cons, or_comm]

/-- the search has gone on from a node -/
def RetV (n : Nat) (l : List (Int × Int)) (B : Nat) (p gN gO gL : Nat) (G : List Nat) (s : TS) (vS vF : Value) (i : Nat) (w : World) : Ending → World → Prop := fun e w' => e = .returned (.tuple #[]) ∧ ∃ s' vS' vF', TjSt B n (mkM l) p gN gO gL s' vS' vF' w' ∧ TPost n (att l) G s i s' ∧
  Mut (TjHot p gO gL vS vF) w w' ∧ (∀ k, vS'.ownBlock = some k → vS.ownBlock = some k ∨ w.heap.size ≤ k) ∧ (∀ k, vF'.ownBlock = some k → vF.ownBlock = some k ∨ w.heap.size ≤ k)

set_option maxRecDepth 100000 in
set_option maxHeartbeats 8000000 in
theorem visit_any {n : Nat} {l : List (Int × Int)} (hv : Vld n l) {B p gN gO gL : Nat} (hgB : 0 < B) (hgp : 0 ≠ p) (hgO : 0 ≠ gO) (hgL : 0 ≠ gL) : ∀ (f : Nat) (s : TS) (vS vF : Value) (G : List Nat) (i : Nat) (w : World), n - s.ct ≤ f → TjSt B n (mkM l) p gN gO gL s vS vF w → TInv n (att l) G s → i < n → s.o i = 0 → (∀ g ∈ G, Rc (att l) g i) → Tab w →
    Calls Tryd.prog 49 #[.pointer (some ⟨p, 0, none⟩), .int .i64 (i : Nat)] w (RetV n l B p gN gO gL G s vS vF i w) := by
  intro f
  induction f with
  | zero =>
    intro s vS vF G i w hf _ hi hin h0 _ _
    have := hi.room hin h0
    omega
  | succ f ih =>
  intro s vS vF G i w hf hst hinv hin h0 hG hT
  have hn40 := hv.1.1
  have hct := hinv.room hin h0
  have hTL := t_enter hinv hin h0 hG
  have hfl : n - (s.ct + 1) ≤ f := by omega
  have hcold : ¬ TjHot p gO gL vS vF 0 := fun h => by
    rcases h with e | e | e | e | e
    · exact hgp e
    · exact hgO e
    · exact hgL e
    · have := (OwnI.blocks hst.st _ e).1; omega
    · have := (OwnU.block hst.fd _ e).1; omega
  have HTL := Lib.hid hTL; have Hih := Lib.hid ih; have Hinv := Lib.hid hinv; have HG := Lib.hid hG
  clear hTL ih hinv hG hf
  go_enter Tryd.func49, Tryd.ntmps49
  obtain ⟨e0, e1, e2, e3, e4, e5, e6, ef⟩ := hst.facts
  have ef3 := ef 3
  go_wp2_with fail
  obtain ⟨c1, hc1⟩ : ∃ c, s.ct + 1 = c := ⟨_, rfl⟩
  have hcv : ((s.ct : Nat) : Int) + 1 = (c1 : Int) := by omega
  rw [hcv]
  have hst1 := hst.count c1
  have hm1 := (Mut.refl (TjHot p gO gL vS vF) w).setCell (q := ⟨p, 3, none⟩) (.inl rfl) (.int .i64 (c1 : Int))
  clear e0 e1 e2 e3 e4 e5 e6 ef ef3 hst
  generalize w.setCell ⟨p, 3, none⟩ (.int .i64 (c1 : Int)) = W1 at *
  obtain ⟨e0, e1, e2, e3, e4, e5, e6, ef⟩ := hst1.facts
  have e3 : W1.cell? ⟨p, 3, none⟩ = some (.int .i64 (c1 : Int)) := e3
  have fo := hst1.o.frozen i; have fl := hst1.lo.frozen i
  have co := hst1.o.cell hin; have cl := hst1.lo.cell hin
  have hst2 := hst1.order i c1
  have fl2 := hst2.lo.frozen i
  have cl2 := hst2.lo.cell hin
  have hst3 := hst2.lower i c1
  have Hst3 := Lib.hid hst3
  clear e0 e4 e5 e6 ef hst2 hst3
  have hi0 : (0 : Int) ≤ (i : Int) := by omega
  have hi1 : (i : Int) < (n : Int) := by omega
  go_region
  have hst3 := Hst3.out.drew
  have hm3 := ((hm1.setCell (q := ⟨gO, i, none⟩) (.inr (.inl rfl)) (.int .i64 (c1 : Int))).setCell (q := ⟨gL, i, none⟩) (.inr (.inr (.inl rfl))) (.int .i64 (c1 : Int))).drew
  clear Hst3 hm1 hst1 e1 e2 e3 fo fl co cl fl2 cl2
  generalize ((W1.setCell { block := gO, off := i } (Value.int IntKind.i64 (c1 : Int))).setCell { block := gL, off := i } (Value.int IntKind.i64 (c1 : Int))).drew = W2 at *
  obtain ⟨e0, e1, e2, e3, e4, e5, e6, ef⟩ := hst3.facts
  have e4 : W2.cell? ⟨p, 4, none⟩ = some vS := e4
  have e5 : W2.cell? ⟨p, 5, none⟩ = some (.int .u64 (s.on : Nat)) := e5
  have ef4 := ef 4; have ef5 := ef 5
  clear e0 e1 e2 e3 e6 ef
  have hst3 : TjSt B n (mkM l) p gN gO gL ⟨updF s.o i c1, updF s.lo i c1, c1, s.S, s.on, s.F⟩ vS vF W2 := hst3
  have hlS : (s.S.map Int.ofNat).length ≤ 1000000 := by have := Hinv.out.len; simp; omega
  have hBW := hst3.hB
  have h1 := u64_one_shl i (by omega)
  rw [Int.one_mul] at h1
  have hon64 : s.on < 18446744073709551616 := u64_of hn40 Hinv.out.onlt
  have hi64 : 1 <<< i < 18446744073709551616 := u64_of hn40 (one_lt hin)
  have hor := u64_or_nat s.on (1 <<< i) hon64 hi64
  obtain ⟨on', hon'⟩ : ∃ q, s.on ||| 1 <<< i = q := ⟨_, rfl⟩
  rw [hon'] at hor
  obtain ⟨b1, hb1⟩ : ∃ q, 1 <<< i = q := ⟨_, rfl⟩
  rw [hb1] at h1 hi64 hor hon'
  have hpS : some p ≠ vS.ownBlock := fun e => by have := (OwnI.blocks hst3.st p e.symm).1; have := hst3.hp; omega
  obtain ⟨J0, hJ0⟩ : ∃ J : World → Prop, J = fun w1 => Below W2.heap.size W2 w1 := ⟨_, rfl⟩
  obtain ⟨J7, hJ7⟩ : ∃ J : Value → World → Prop, J = fun v w1 => ∃ X : World, w1 = X.alloc (.cells #[.int .i64 (i : Int)] 3) ∧ v = .slice (some ⟨X.heap.size, 0, none⟩) 1 1 ∧ J0 X := ⟨_, rfl⟩
  obtain ⟨J8, hJ8⟩ : ∃ J : Value → World → Prop, J = fun v w1 => ∃ X : World, J0 X ∧ OwnI w1 B v (s.S.map Int.ofNat ++ [(i : Int)]) ∧ X.grownBy w1 vS.ownBlock ∧ (v.ownBlock = vS.ownBlock ∨ ∀ k, v.ownBlock = some k → X.heap.size ≤ k) := ⟨_, rfl⟩
  obtain ⟨J18, hJ18⟩ : ∃ J : Value → World → Prop, J = fun v w1 => TjSt B n (mkM l) p gN gO gL ⟨updF s.o i c1, updF s.lo i c1, c1, s.S ++ [i], s.on, s.F⟩ v vF w1 ∧ Mut (TjHot p gO gL vS vF) W2 w1 ∧ (∀ k, v.ownBlock = some k → vS.ownBlock = some k ∨ W2.heap.size ≤ k) := ⟨_, rfl⟩
  obtain ⟨J21, hJ21⟩ : ∃ J : Value → World → Prop, J = fun v w1 => TjSt B n (mkM l) p gN gO gL ⟨updF s.o i c1, updF s.lo i c1, c1, s.S ++ [i], on', s.F⟩ v vF w1 ∧ Mut (TjHot p gO gL vS vF) W2 w1 ∧ (∀ k, v.ownBlock = some k → vS.ownBlock = some k ∨ W2.heap.size ≤ k) := ⟨_, rfl⟩
  have hJd : J0 W2.drew := by rw [hJ0]; exact (Below.refl _ _).drew
  have hb0 : ∀ w1, J0 w1 → Below W2.heap.size W2 w1 := fun w1 h => by rw [hJ0] at h; exact h
  have hc0 : ∀ w1, J0 w1 → w1.cell? ⟨p, 4, none⟩ = some vS ∧ w1.cell? ⟨p, 5, none⟩ = some (.int .u64 (s.on : Nat)) := fun w1 h => by
    have := (hst3.below (hb0 w1 h)).facts
    exact ⟨this.2.2.2.2.1, this.2.2.2.2.2.1⟩
  have hc7 : ∀ v w1, J7 v w1 → w1.cell? ⟨p, 4, none⟩ = some vS ∧ w1.cell? ⟨p, 5, none⟩ = some (.int .u64 (s.on : Nat)) := fun v w1 h => by
    rw [hJ7] at h
    obtain ⟨X, rfl, _, h⟩ := h
    have := ((hst3.below (hb0 X h)).below (newB X (.cells #[.int .i64 (i : Int)] 3))).facts
    exact ⟨this.2.2.2.2.1, this.2.2.2.2.2.1⟩
  have hk8 : ∀ v w1, J8 v w1 → Blk w1 p 72 #[.slice (some ⟨gN, 0, none⟩) n n, .slice (some ⟨gO, 0, none⟩) n n, .slice (some ⟨gL, 0, none⟩) n n, .int .i64 (c1 : Nat), vS, .int .u64 (s.on : Nat), vF] := fun v w1 h => by
    rw [hJ8] at h
    obtain ⟨X, hX, _, hg, _⟩ := h
    exact (hst3.below (hb0 X hX)).hd.grown hg hpS
  have hc8 : ∀ v w1, J8 v w1 → w1.cell? ⟨p, 5, none⟩ = some (.int .u64 (s.on : Nat)) := fun v w1 h => by rw [(hk8 v w1 h).cell]; rfl
  have h18c : ∀ v w1, J8 v w1 → w1.cell? ⟨p, 4, none⟩ = some vS ∧ w1.frozen? ⟨p, 4, none⟩ = false := fun v w1 h => ⟨by rw [(hk8 v w1 h).cell]; rfl, (hk8 v w1 h).frozen 4⟩
  have h18 : ∀ v w1, J8 v w1 → J18 v (w1.setCell ⟨p, 4, none⟩ v) := fun v w1 h => by
    rw [hJ8] at h
    obtain ⟨X, hX, ho, hg, hv⟩ := h
    have hbX := hb0 X hX
    rw [hJ18]
    refine ⟨(hst3.below hbX).push (S' := s.S ++ [i]) (by rw [List.map_append]; exact ho) hg hv, ?_, fun k hk => ?_⟩
    · refine Mut.setCell ?_ (.inl rfl) _
      exact (Mut.of_below hbX).trans (Mut.of_grown (H := TjHot p gO gL vS vF) hg (fun k hk => .inr (.inr (.inr (.inl hk))))) (fun _ _ h => h)
    · rcases hv with hv | hv
      · exact .inl (by rw [← hv]; exact hk)
      · exact .inr (Nat.le_trans hbX.size (hv k hk))
  have h21c : ∀ v w1, J18 v w1 → w1.cell? ⟨p, 5, none⟩ = some (.int .u64 (s.on : Nat)) ∧ w1.frozen? ⟨p, 5, none⟩ = false := fun v w1 h => by
    rw [hJ18] at h
    have := h.1.facts
    exact ⟨this.2.2.2.2.2.1, this.2.2.2.2.2.2.2 5⟩
  have h21 : ∀ v w1, J18 v w1 → J21 v (w1.setCell ⟨p, 5, none⟩ (.int .u64 (on' : Int))) := fun v w1 h => by
    rw [hJ18] at h
    rw [hJ21]
    exact ⟨h.1.onto on', h.2.1.setCell (.inl rfl) _, h.2.2⟩
  have hmk7 : ∀ w1, J0 w1 → J7 (.slice (some ⟨w1.heap.size, 0, none⟩) 1 1) (w1.alloc (.cells #[.int .i64 (i : Int)] 3)) := fun w1 h => by rw [hJ7]; exact ⟨w1, rfl, rfl, h⟩
  have hof7 : ∀ v w1, J7 v w1 → ∃ X : World, w1 = X.alloc (.cells #[.int .i64 (i : Int)] 3) ∧ v = .slice (some ⟨X.heap.size, 0, none⟩) 1 1 ∧ J0 X := fun v w1 h => by rw [hJ7] at h; exact h
  have hmk8 : ∀ (X : World) v w1, J0 X → OwnI w1 B v (s.S.map Int.ofNat ++ [(i : Int)]) → X.grownBy w1 vS.ownBlock → (v.ownBlock = vS.ownBlock ∨ ∀ k, v.ownBlock = some k → X.heap.size ≤ k) → J8 v w1 := fun X v w1 a b c d => by rw [hJ8]; exact ⟨X, a, b, c, d⟩
  clear hJ0 hJ7 hJ8 hJ18 hk8 e4 e5 ef4 ef5
  go_upto_region 2 with fail
  go_cut [54] (fun _ wx => ∃ v8, J21 v8 wx)
  case first =>
    have hc0 := Lib.hid hc0; have hc7 := Lib.hid hc7; have hc8 := Lib.hid hc8; have h18c := Lib.hid h18c; have h18 := Lib.hid h18; have h21c := Lib.hid h21c; have h21 := Lib.hid h21; have hmk7 := Lib.hid hmk7; have hof7 := Lib.hid hof7; have hmk8 := Lib.hid hmk8
    refine wp_region_tree [5, 7, 8, 12, 18, 21] (fun _ => True) J0 22 [0, 1, 2, 3, 4, 5, 6, 7, 8, 9, 10, 11, 12, 13, 14, 15, 16, 17, 18, 19, 20, 21] (by rfl) (by decide) (by kernel_rfl) (by kernel_rfl) trivial hJd ?_
    refine TxtT.pure 0 (by rfl) (by rw [List.getElem?_toArray]; rfl) (by rfl) (by kernel_rfl) (by rfl) ?_; apply Exists.intro; refine ⟨fun w1 hS1 => ?_, ?_⟩; (focus (skip; go_simp; with_reducible rfl))
    rw [show List.erase [0, 1, 2, 3, 4, 5, 6, 7, 8, 9, 10, 11, 12, 13, 14, 15, 16, 17, 18, 19, 20, 21] 0 = [1, 2, 3, 4, 5, 6, 7, 8, 9, 10, 11, 12, 13, 14, 15, 16, 17, 18, 19, 20, 21] from rfl]; simp only [Act.put, List.setIfInBounds_toArray, List.set_cons_zero, List.set_cons_succ]
    refine TxtT.pure 1 (by rfl) (by rw [List.getElem?_toArray]; rfl) (by rfl) (by kernel_rfl) (by rfl) ?_; apply Exists.intro; refine ⟨fun w1 hS1 => ?_, ?_⟩; (focus (skip; go_simp; with_reducible rfl))
    rw [show List.erase [1, 2, 3, 4, 5, 6, 7, 8, 9, 10, 11, 12, 13, 14, 15, 16, 17, 18, 19, 20, 21] 1 = [2, 3, 4, 5, 6, 7, 8, 9, 10, 11, 12, 13, 14, 15, 16, 17, 18, 19, 20, 21] from rfl]; simp only [Act.put, List.setIfInBounds_toArray, List.set_cons_zero, List.set_cons_succ]
    refine TxtT.pure 2 (by rfl) (by rw [List.getElem?_toArray]; rfl) (by rfl) (by kernel_rfl) (by rfl) ?_; apply Exists.intro; refine ⟨fun w1 hS1 => ?_, ?_⟩; (focus (skip; go_simp; with_reducible rfl))
    rw [show List.erase [2, 3, 4, 5, 6, 7, 8, 9, 10, 11, 12, 13, 14, 15, 16, 17, 18, 19, 20, 21] 2 = [3, 4, 5, 6, 7, 8, 9, 10, 11, 12, 13, 14, 15, 16, 17, 18, 19, 20, 21] from rfl]; simp only [Act.put, List.setIfInBounds_toArray, List.set_cons_zero, List.set_cons_succ]
    refine TxtT.pure 3 (by rfl) (by rw [List.getElem?_toArray]; rfl) (by rfl) (by kernel_rfl) (by rfl) ?_; apply Exists.intro; refine ⟨fun w1 hS1 => ?_, ?_⟩; (focus (skip; go_simp; with_reducible rfl))
    rw [show List.erase [3, 4, 5, 6, 7, 8, 9, 10, 11, 12, 13, 14, 15, 16, 17, 18, 19, 20, 21] 3 = [4, 5, 6, 7, 8, 9, 10, 11, 12, 13, 14, 15, 16, 17, 18, 19, 20, 21] from rfl]; simp only [Act.put, List.setIfInBounds_toArray, List.set_cons_zero, List.set_cons_succ]
    refine TxtT.pure 4 (by rfl) (by rw [List.getElem?_toArray]; rfl) (by rfl) (by kernel_rfl) (by rfl) ?_; apply Exists.intro; refine ⟨fun w1 hS1 => ?_, ?_⟩; (focus (skip; go_simp; with_reducible rfl))
    rw [show List.erase [4, 5, 6, 7, 8, 9, 10, 11, 12, 13, 14, 15, 16, 17, 18, 19, 20, 21] 4 = [5, 6, 7, 8, 9, 10, 11, 12, 13, 14, 15, 16, 17, 18, 19, 20, 21] from rfl]; simp only [Act.put, List.setIfInBounds_toArray, List.set_cons_zero, List.set_cons_succ]
    refine TxtT.pure 6 (by rfl) (by rw [List.getElem?_toArray]; rfl) (by rfl) (by kernel_rfl) (by rfl) ?_; apply Exists.intro; refine ⟨fun w1 hS1 => ?_, ?_⟩; (focus (skip; go_simp; with_reducible rfl))
    rw [show List.erase [5, 6, 7, 8, 9, 10, 11, 12, 13, 14, 15, 16, 17, 18, 19, 20, 21] 6 = [5, 7, 8, 9, 10, 11, 12, 13, 14, 15, 16, 17, 18, 19, 20, 21] from rfl]; simp only [Act.put, List.setIfInBounds_toArray, List.set_cons_zero, List.set_cons_succ]
    refine TxtT.pure 9 (by rfl) (by rw [List.getElem?_toArray]; rfl) (by rfl) (by kernel_rfl) (by rfl) ?_; apply Exists.intro; refine ⟨fun w1 hS1 => ?_, ?_⟩; (focus (skip; go_simp; with_reducible rfl))
    rw [show List.erase [5, 7, 8, 9, 10, 11, 12, 13, 14, 15, 16, 17, 18, 19, 20, 21] 9 = [5, 7, 8, 10, 11, 12, 13, 14, 15, 16, 17, 18, 19, 20, 21] from rfl]; simp only [Act.put, List.setIfInBounds_toArray, List.set_cons_zero, List.set_cons_succ]
    refine TxtT.pure 10 (by rfl) (by rw [List.getElem?_toArray]; rfl) (by rfl) (by kernel_rfl) (by rfl) ?_; apply Exists.intro; refine ⟨fun w1 hS1 => ?_, ?_⟩; (focus (skip; go_simp; with_reducible rfl))
    rw [show List.erase [5, 7, 8, 10, 11, 12, 13, 14, 15, 16, 17, 18, 19, 20, 21] 10 = [5, 7, 8, 11, 12, 13, 14, 15, 16, 17, 18, 19, 20, 21] from rfl]; simp only [Act.put, List.setIfInBounds_toArray, List.set_cons_zero, List.set_cons_succ]
    refine TxtT.pure 11 (by rfl) (by rw [List.getElem?_toArray]; rfl) (by rfl) (by kernel_rfl) (by rfl) ?_; apply Exists.intro; refine ⟨fun w1 hS1 => ?_, ?_⟩; (focus (skip; go_simp; with_reducible rfl))
    rw [show List.erase [5, 7, 8, 11, 12, 13, 14, 15, 16, 17, 18, 19, 20, 21] 11 = [5, 7, 8, 12, 13, 14, 15, 16, 17, 18, 19, 20, 21] from rfl]; simp only [Act.put, List.setIfInBounds_toArray, List.set_cons_zero, List.set_cons_succ]
    refine TxtT.pure 13 (by rfl) (by rw [List.getElem?_toArray]; rfl) (by rfl) (by kernel_rfl) (by rfl) ?_; apply Exists.intro; refine ⟨fun w1 hS1 => ?_, ?_⟩; (focus (skip; go_simp; with_reducible rfl))
    rw [show List.erase [5, 7, 8, 12, 13, 14, 15, 16, 17, 18, 19, 20, 21] 13 = [5, 7, 8, 12, 14, 15, 16, 17, 18, 19, 20, 21] from rfl]; simp only [Act.put, List.setIfInBounds_toArray, List.set_cons_zero, List.set_cons_succ]
    refine TxtT.pure 14 (by rfl) (by rw [List.getElem?_toArray]; rfl) (by rfl) (by kernel_rfl) (by rfl) ?_; apply Exists.intro; refine ⟨fun w1 hS1 => ?_, ?_⟩; (focus (skip; go_simp; with_reducible rfl))
    rw [show List.erase [5, 7, 8, 12, 14, 15, 16, 17, 18, 19, 20, 21] 14 = [5, 7, 8, 12, 15, 16, 17, 18, 19, 20, 21] from rfl]; simp only [Act.put, List.setIfInBounds_toArray, List.set_cons_zero, List.set_cons_succ]
    refine TxtT.three 5 7 12 (by kernel_rfl) (by rw [List.getElem?_toArray]; rfl) (by rw [List.getElem?_toArray]; rfl) (by rw [List.getElem?_toArray]; rfl) (by rfl) (by rfl) (by rfl) (by rfl) (by rfl) (by rfl) (fun v => vS = v) (fun _ w' => J0 w') (fun v => ∃ q, v = Value.slice (some ⟨q, 0, none⟩) 1 1) (fun v w' => J7 v w') (fun v => v = Value.int .u64 (s.on : Nat)) (fun _ w' => J0 w') (fun w1 _ hJ1 => ?_) (fun w1 _ hJ1 => ?_) (fun w1 _ hJ1 => ?_) ?_ ?_ ?_
    · exact Eff.value (w' := w1) (by have g := (hc0.out w1 hJ1).1; go_simp) ⟨trivial, rfl, hJ1⟩
    · exact Eff.value (w' := w1.alloc (.cells #[.int .i64 (i : Int)] 3)) (v := .slice (some ⟨w1.heap.size, 0, none⟩) 1 1) (by go_simp) ⟨trivial, ⟨_, rfl⟩, hmk7.out w1 hJ1⟩
    · exact Eff.value (w' := w1) (by have g := (hc0.out w1 hJ1).2; go_simp) ⟨trivial, rfl, hJ1⟩
    ·
      rintro _ rfl
      rw [show List.erase [5, 7, 8, 12, 15, 16, 17, 18, 19, 20, 21] 5 = [7, 8, 12, 15, 16, 17, 18, 19, 20, 21] from rfl]; simp only [Act.put, List.setIfInBounds_toArray, List.set_cons_zero, List.set_cons_succ]
      refine TxtT.two 7 12 (by kernel_rfl) (by rw [List.getElem?_toArray]; rfl) (by rw [List.getElem?_toArray]; rfl) (by rfl) (by rfl) (by rfl) (by rfl) (fun v => ∃ q, v = Value.slice (some ⟨q, 0, none⟩) 1 1) (fun v w' => J7 v w') (fun v => v = Value.int .u64 (s.on : Nat)) (fun _ w' => J0 w') (fun w1 _ hJ1 => ?_) (fun w1 _ hJ1 => ?_) ?_ ?_
      · exact Eff.value (w' := w1.alloc (.cells #[.int .i64 (i : Int)] 3)) (v := .slice (some ⟨w1.heap.size, 0, none⟩) 1 1) (by go_simp) ⟨trivial, ⟨_, rfl⟩, hmk7.out w1 hJ1⟩
      · exact Eff.value (w' := w1) (by have g := (hc0.out w1 hJ1).2; go_simp) ⟨trivial, rfl, hJ1⟩
      ·
        rintro _ ⟨q7, rfl⟩
        rw [show List.erase [7, 8, 12, 15, 16, 17, 18, 19, 20, 21] 7 = [8, 12, 15, 16, 17, 18, 19, 20, 21] from rfl]; simp only [Act.put, List.setIfInBounds_toArray, List.set_cons_zero, List.set_cons_succ]
        refine TxtT.two 8 12 (by kernel_rfl) (by rw [List.getElem?_toArray]; rfl) (by rw [List.getElem?_toArray]; rfl) (by rfl) (by rfl) (by rfl) (by rfl) (fun v => ∃ A k c, v = Value.slice A k c) (fun v w' => J8 v w') (fun v => v = Value.int .u64 (s.on : Nat)) (fun _ w' => J7 (Value.slice (some ⟨q7, 0, none⟩) 1 1) w') (fun w1 _ hJ1 => ?_) (fun w1 _ hJ1 => ?_) ?_ ?_
        · obtain ⟨X, rfl, hq, hX⟩ := hof7.out _ _ hJ1
          have hXb := hb0 X hX
          injection hq with hq; injection hq with hq; injection hq with hq _ _
          refine Eff.of_list (ops := #[]) (by rfl) ?_
          refine wpList_appI2 (by rfl) _ _ (by rfl) X B vS (s.S.map Int.ofNat) (i : Int) (OwnI.below hst3.st hXb) (by rfl) (by rfl) hq hlS (Nat.le_trans hBW hXb.size) ?_
          intro v' w4 hown4 _ hg4 hv4
          obtain ⟨A4, c4, e4, _⟩ := OwnI.form hown4
          exact ⟨rfl, v', rfl, trivial, ⟨A4, _, c4, e4⟩, hmk8.out X v' w4 hX hown4 hg4 hv4⟩
        · exact Eff.value (w' := w1) (by have g := (hc7.out _ w1 hJ1).2; go_simp) ⟨trivial, rfl, hJ1⟩
        ·
          rintro _ ⟨A8, k8, c8, rfl⟩
          rw [show List.erase [8, 12, 15, 16, 17, 18, 19, 20, 21] 8 = [12, 15, 16, 17, 18, 19, 20, 21] from rfl]; simp only [Act.put, List.setIfInBounds_toArray, List.set_cons_zero, List.set_cons_succ]
          refine TxtT.one 12 (by kernel_rfl) (by rw [List.getElem?_toArray]; rfl) (by rfl) (by rfl) (fun v => v = Value.int .u64 (s.on : Nat)) (fun _ w' => J8 (Value.slice A8 k8 c8) w') (fun w1 _ hJ1 => ?_) ?_
          · exact Eff.value (w' := w1) (by have g := (hc8.out _ w1 hJ1); go_simp) ⟨trivial, rfl, hJ1⟩
          rintro _ rfl
          rw [show List.erase [12, 15, 16, 17, 18, 19, 20, 21] 12 = [15, 16, 17, 18, 19, 20, 21] from rfl]; simp only [Act.put, List.setIfInBounds_toArray, List.set_cons_zero, List.set_cons_succ]
          refine TxtT.pure 15 (by rfl) (by rw [List.getElem?_toArray]; rfl) (by rfl) (by kernel_rfl) (by rfl) ?_; apply Exists.intro; refine ⟨fun w1 hS1 => ?_, ?_⟩; (focus (skip; go_simp; with_reducible rfl))
          rw [show List.erase [15, 16, 17, 18, 19, 20, 21] 15 = [16, 17, 18, 19, 20, 21] from rfl]; simp only [Act.put, List.setIfInBounds_toArray, List.set_cons_zero, List.set_cons_succ]
          refine TxtT.pure 16 (by rfl) (by rw [List.getElem?_toArray]; rfl) (by rfl) (by kernel_rfl) (by rfl) ?_; apply Exists.intro; refine ⟨fun w1 hS1 => ?_, ?_⟩; (focus (skip; go_simp; with_reducible rfl))
          rw [show List.erase [16, 17, 18, 19, 20, 21] 16 = [17, 18, 19, 20, 21] from rfl]; simp only [Act.put, List.setIfInBounds_toArray, List.set_cons_zero, List.set_cons_succ]
          refine TxtT.pure 17 (by rfl) (by rw [List.getElem?_toArray]; rfl) (by rfl) (by kernel_rfl) (by rfl) ?_; apply Exists.intro; refine ⟨fun w1 hS1 => ?_, ?_⟩; (focus (skip; go_simp; with_reducible rfl))
          rw [show List.erase [17, 18, 19, 20, 21] 17 = [18, 19, 20, 21] from rfl]; simp only [Act.put, List.setIfInBounds_toArray, List.set_cons_zero, List.set_cons_succ]
          refine TxtT.one 18 (by kernel_rfl) (by rw [List.getElem?_toArray]; rfl) (by rfl) (by rfl) (fun v => v = undef) (fun _ w' => J18 (Value.slice A8 k8 c8) w') (fun w1 _ hJ1 => ?_) ?_
          · have g := h18c.out _ w1 hJ1; exact Eff.skip (w' := w1.setCell ⟨p, 4, none⟩ (Value.slice A8 k8 c8)) (by go_simp) ⟨trivial, rfl, h18.out _ w1 hJ1⟩
          rintro _ rfl
          rw [show List.erase [18, 19, 20, 21] 18 = [19, 20, 21] from rfl]; simp only [Act.put]
          refine TxtT.pure 19 (by rfl) (by rw [List.getElem?_toArray]; rfl) (by rfl) (by kernel_rfl) (by rfl) ?_; apply Exists.intro; refine ⟨fun w1 hS1 => ?_, ?_⟩; (focus (skip; go_simp; with_reducible rfl))
          rw [show List.erase [19, 20, 21] 19 = [20, 21] from rfl]; simp only [Act.put, List.setIfInBounds_toArray, List.set_cons_zero, List.set_cons_succ]
          refine TxtT.pure 20 (by rfl) (by rw [List.getElem?_toArray]; rfl) (by rfl) (by kernel_rfl) (by rfl) ?_; apply Exists.intro; refine ⟨fun w1 hS1 => ?_, ?_⟩; (focus (skip; go_simp; with_reducible rfl))
          rw [show List.erase [20, 21] 20 = [21] from rfl]; simp only [Act.put, List.setIfInBounds_toArray, List.set_cons_zero, List.set_cons_succ]
          refine TxtT.one 21 (by kernel_rfl) (by rw [List.getElem?_toArray]; rfl) (by rfl) (by rfl) (fun v => v = undef) (fun _ w' => J21 (Value.slice A8 k8 c8) w') (fun w1 _ hJ1 => ?_) ?_
          · have g := h21c.out _ w1 hJ1; exact Eff.skip (w' := w1.setCell ⟨p, 5, none⟩ (.int .u64 (on' : Int))) (by go_simp) ⟨trivial, rfl, h21.out _ w1 hJ1⟩
          rintro _ rfl
          rw [show List.erase [21] 21 = [] from rfl]; simp only [Act.put]
          refine ⟨rfl, fun w1 _ hJ1 => ?_⟩
          go_wp2_with fail
          go_meet
          exact ⟨_, hJ1⟩
        ·
          rintro _ rfl
          rw [show List.erase [8, 12, 15, 16, 17, 18, 19, 20, 21] 12 = [8, 15, 16, 17, 18, 19, 20, 21] from rfl]; simp only [Act.put, List.setIfInBounds_toArray, List.set_cons_zero, List.set_cons_succ]
          refine TxtT.pure 15 (by rfl) (by rw [List.getElem?_toArray]; rfl) (by rfl) (by kernel_rfl) (by rfl) ?_; apply Exists.intro; refine ⟨fun w1 hS1 => ?_, ?_⟩; (focus (skip; go_simp; with_reducible rfl))
          rw [show List.erase [8, 15, 16, 17, 18, 19, 20, 21] 15 = [8, 16, 17, 18, 19, 20, 21] from rfl]; simp only [Act.put, List.setIfInBounds_toArray, List.set_cons_zero, List.set_cons_succ]
          refine TxtT.one 8 (by kernel_rfl) (by rw [List.getElem?_toArray]; rfl) (by rfl) (by rfl) (fun v => ∃ A k c, v = Value.slice A k c) (fun v w' => J8 v w') (fun w1 _ hJ1 => ?_) ?_
          · obtain ⟨X, rfl, hq, hX⟩ := hof7.out _ _ hJ1
            have hXb := hb0 X hX
            injection hq with hq; injection hq with hq; injection hq with hq _ _
            refine Eff.of_list (ops := #[]) (by rfl) ?_
            refine wpList_appI2 (by rfl) _ _ (by rfl) X B vS (s.S.map Int.ofNat) (i : Int) (OwnI.below hst3.st hXb) (by rfl) (by rfl) hq hlS (Nat.le_trans hBW hXb.size) ?_
            intro v' w4 hown4 _ hg4 hv4
            obtain ⟨A4, c4, e4, _⟩ := OwnI.form hown4
            exact ⟨rfl, v', rfl, trivial, ⟨A4, _, c4, e4⟩, hmk8.out X v' w4 hX hown4 hg4 hv4⟩
          rintro _ ⟨A8, k8, c8, rfl⟩
          rw [show List.erase [8, 16, 17, 18, 19, 20, 21] 8 = [16, 17, 18, 19, 20, 21] from rfl]; simp only [Act.put, List.setIfInBounds_toArray, List.set_cons_zero, List.set_cons_succ]
          refine TxtT.pure 16 (by rfl) (by rw [List.getElem?_toArray]; rfl) (by rfl) (by kernel_rfl) (by rfl) ?_; apply Exists.intro; refine ⟨fun w1 hS1 => ?_, ?_⟩; (focus (skip; go_simp; with_reducible rfl))
          rw [show List.erase [16, 17, 18, 19, 20, 21] 16 = [17, 18, 19, 20, 21] from rfl]; simp only [Act.put, List.setIfInBounds_toArray, List.set_cons_zero, List.set_cons_succ]
          refine TxtT.pure 17 (by rfl) (by rw [List.getElem?_toArray]; rfl) (by rfl) (by kernel_rfl) (by rfl) ?_; apply Exists.intro; refine ⟨fun w1 hS1 => ?_, ?_⟩; (focus (skip; go_simp; with_reducible rfl))
          rw [show List.erase [17, 18, 19, 20, 21] 17 = [18, 19, 20, 21] from rfl]; simp only [Act.put, List.setIfInBounds_toArray, List.set_cons_zero, List.set_cons_succ]
          refine TxtT.one 18 (by kernel_rfl) (by rw [List.getElem?_toArray]; rfl) (by rfl) (by rfl) (fun v => v = undef) (fun _ w' => J18 (Value.slice A8 k8 c8) w') (fun w1 _ hJ1 => ?_) ?_
          · have g := h18c.out _ w1 hJ1; exact Eff.skip (w' := w1.setCell ⟨p, 4, none⟩ (Value.slice A8 k8 c8)) (by go_simp) ⟨trivial, rfl, h18.out _ w1 hJ1⟩
          rintro _ rfl
          rw [show List.erase [18, 19, 20, 21] 18 = [19, 20, 21] from rfl]; simp only [Act.put]
          refine TxtT.pure 19 (by rfl) (by rw [List.getElem?_toArray]; rfl) (by rfl) (by kernel_rfl) (by rfl) ?_; apply Exists.intro; refine ⟨fun w1 hS1 => ?_, ?_⟩; (focus (skip; go_simp; with_reducible rfl))
          rw [show List.erase [19, 20, 21] 19 = [20, 21] from rfl]; simp only [Act.put, List.setIfInBounds_toArray, List.set_cons_zero, List.set_cons_succ]
          refine TxtT.pure 20 (by rfl) (by rw [List.getElem?_toArray]; rfl) (by rfl) (by kernel_rfl) (by rfl) ?_; apply Exists.intro; refine ⟨fun w1 hS1 => ?_, ?_⟩; (focus (skip; go_simp; with_reducible rfl))
          rw [show List.erase [20, 21] 20 = [21] from rfl]; simp only [Act.put, List.setIfInBounds_toArray, List.set_cons_zero, List.set_cons_succ]
          refine TxtT.one 21 (by kernel_rfl) (by rw [List.getElem?_toArray]; rfl) (by rfl) (by rfl) (fun v => v = undef) (fun _ w' => J21 (Value.slice A8 k8 c8) w') (fun w1 _ hJ1 => ?_) ?_
          · have g := h21c.out _ w1 hJ1; exact Eff.skip (w' := w1.setCell ⟨p, 5, none⟩ (.int .u64 (on' : Int))) (by go_simp) ⟨trivial, rfl, h21.out _ w1 hJ1⟩
          rintro _ rfl
          rw [show List.erase [21] 21 = [] from rfl]; simp only [Act.put]
          refine ⟨rfl, fun w1 _ hJ1 => ?_⟩
          go_wp2_with fail
          go_meet
          exact ⟨_, hJ1⟩
      ·
        rintro _ rfl
        rw [show List.erase [7, 8, 12, 15, 16, 17, 18, 19, 20, 21] 12 = [7, 8, 15, 16, 17, 18, 19, 20, 21] from rfl]; simp only [Act.put, List.setIfInBounds_toArray, List.set_cons_zero, List.set_cons_succ]
        refine TxtT.pure 15 (by rfl) (by rw [List.getElem?_toArray]; rfl) (by rfl) (by kernel_rfl) (by rfl) ?_; apply Exists.intro; refine ⟨fun w1 hS1 => ?_, ?_⟩; (focus (skip; go_simp; with_reducible rfl))
        rw [show List.erase [7, 8, 15, 16, 17, 18, 19, 20, 21] 15 = [7, 8, 16, 17, 18, 19, 20, 21] from rfl]; simp only [Act.put, List.setIfInBounds_toArray, List.set_cons_zero, List.set_cons_succ]
        refine TxtT.one 7 (by kernel_rfl) (by rw [List.getElem?_toArray]; rfl) (by rfl) (by rfl) (fun v => ∃ q, v = Value.slice (some ⟨q, 0, none⟩) 1 1) (fun v w' => J7 v w') (fun w1 _ hJ1 => ?_) ?_
        · exact Eff.value (w' := w1.alloc (.cells #[.int .i64 (i : Int)] 3)) (v := .slice (some ⟨w1.heap.size, 0, none⟩) 1 1) (by go_simp) ⟨trivial, ⟨_, rfl⟩, hmk7.out w1 hJ1⟩
        rintro _ ⟨q7, rfl⟩
        rw [show List.erase [7, 8, 16, 17, 18, 19, 20, 21] 7 = [8, 16, 17, 18, 19, 20, 21] from rfl]; simp only [Act.put, List.setIfInBounds_toArray, List.set_cons_zero, List.set_cons_succ]
        refine TxtT.one 8 (by kernel_rfl) (by rw [List.getElem?_toArray]; rfl) (by rfl) (by rfl) (fun v => ∃ A k c, v = Value.slice A k c) (fun v w' => J8 v w') (fun w1 _ hJ1 => ?_) ?_
        · obtain ⟨X, rfl, hq, hX⟩ := hof7.out _ _ hJ1
          have hXb := hb0 X hX
          injection hq with hq; injection hq with hq; injection hq with hq _ _
          refine Eff.of_list (ops := #[]) (by rfl) ?_
          refine wpList_appI2 (by rfl) _ _ (by rfl) X B vS (s.S.map Int.ofNat) (i : Int) (OwnI.below hst3.st hXb) (by rfl) (by rfl) hq hlS (Nat.le_trans hBW hXb.size) ?_
          intro v' w4 hown4 _ hg4 hv4
          obtain ⟨A4, c4, e4, _⟩ := OwnI.form hown4
          exact ⟨rfl, v', rfl, trivial, ⟨A4, _, c4, e4⟩, hmk8.out X v' w4 hX hown4 hg4 hv4⟩
        rintro _ ⟨A8, k8, c8, rfl⟩
        rw [show List.erase [8, 16, 17, 18, 19, 20, 21] 8 = [16, 17, 18, 19, 20, 21] from rfl]; simp only [Act.put, List.setIfInBounds_toArray, List.set_cons_zero, List.set_cons_succ]
        refine TxtT.pure 16 (by rfl) (by rw [List.getElem?_toArray]; rfl) (by rfl) (by kernel_rfl) (by rfl) ?_; apply Exists.intro; refine ⟨fun w1 hS1 => ?_, ?_⟩; (focus (skip; go_simp; with_reducible rfl))
        rw [show List.erase [16, 17, 18, 19, 20, 21] 16 = [17, 18, 19, 20, 21] from rfl]; simp only [Act.put, List.setIfInBounds_toArray, List.set_cons_zero, List.set_cons_succ]
        refine TxtT.pure 17 (by rfl) (by rw [List.getElem?_toArray]; rfl) (by rfl) (by kernel_rfl) (by rfl) ?_; apply Exists.intro; refine ⟨fun w1 hS1 => ?_, ?_⟩; (focus (skip; go_simp; with_reducible rfl))
        rw [show List.erase [17, 18, 19, 20, 21] 17 = [18, 19, 20, 21] from rfl]; simp only [Act.put, List.setIfInBounds_toArray, List.set_cons_zero, List.set_cons_succ]
        refine TxtT.one 18 (by kernel_rfl) (by rw [List.getElem?_toArray]; rfl) (by rfl) (by rfl) (fun v => v = undef) (fun _ w' => J18 (Value.slice A8 k8 c8) w') (fun w1 _ hJ1 => ?_) ?_
        · have g := h18c.out _ w1 hJ1; exact Eff.skip (w' := w1.setCell ⟨p, 4, none⟩ (Value.slice A8 k8 c8)) (by go_simp) ⟨trivial, rfl, h18.out _ w1 hJ1⟩
        rintro _ rfl
        rw [show List.erase [18, 19, 20, 21] 18 = [19, 20, 21] from rfl]; simp only [Act.put]
        refine TxtT.pure 19 (by rfl) (by rw [List.getElem?_toArray]; rfl) (by rfl) (by kernel_rfl) (by rfl) ?_; apply Exists.intro; refine ⟨fun w1 hS1 => ?_, ?_⟩; (focus (skip; go_simp; with_reducible rfl))
        rw [show List.erase [19, 20, 21] 19 = [20, 21] from rfl]; simp only [Act.put, List.setIfInBounds_toArray, List.set_cons_zero, List.set_cons_succ]
        refine TxtT.pure 20 (by rfl) (by rw [List.getElem?_toArray]; rfl) (by rfl) (by kernel_rfl) (by rfl) ?_; apply Exists.intro; refine ⟨fun w1 hS1 => ?_, ?_⟩; (focus (skip; go_simp; with_reducible rfl))
        rw [show List.erase [20, 21] 20 = [21] from rfl]; simp only [Act.put, List.setIfInBounds_toArray, List.set_cons_zero, List.set_cons_succ]
        refine TxtT.one 21 (by kernel_rfl) (by rw [List.getElem?_toArray]; rfl) (by rfl) (by rfl) (fun v => v = undef) (fun _ w' => J21 (Value.slice A8 k8 c8) w') (fun w1 _ hJ1 => ?_) ?_
        · have g := h21c.out _ w1 hJ1; exact Eff.skip (w' := w1.setCell ⟨p, 5, none⟩ (.int .u64 (on' : Int))) (by go_simp) ⟨trivial, rfl, h21.out _ w1 hJ1⟩
        rintro _ rfl
        rw [show List.erase [21] 21 = [] from rfl]; simp only [Act.put]
        refine ⟨rfl, fun w1 _ hJ1 => ?_⟩
        go_wp2_with fail
        go_meet
        exact ⟨_, hJ1⟩
    ·
      rintro _ ⟨q7, rfl⟩
      rw [show List.erase [5, 7, 8, 12, 15, 16, 17, 18, 19, 20, 21] 7 = [5, 8, 12, 15, 16, 17, 18, 19, 20, 21] from rfl]; simp only [Act.put, List.setIfInBounds_toArray, List.set_cons_zero, List.set_cons_succ]
      refine TxtT.two 5 12 (by kernel_rfl) (by rw [List.getElem?_toArray]; rfl) (by rw [List.getElem?_toArray]; rfl) (by rfl) (by rfl) (by rfl) (by rfl) (fun v => vS = v) (fun _ w' => J7 (Value.slice (some ⟨q7, 0, none⟩) 1 1) w') (fun v => v = Value.int .u64 (s.on : Nat)) (fun _ w' => J7 (Value.slice (some ⟨q7, 0, none⟩) 1 1) w') (fun w1 _ hJ1 => ?_) (fun w1 _ hJ1 => ?_) ?_ ?_
      · exact Eff.value (w' := w1) (by have g := (hc7.out _ w1 hJ1).1; go_simp) ⟨trivial, rfl, hJ1⟩
      · exact Eff.value (w' := w1) (by have g := (hc7.out _ w1 hJ1).2; go_simp) ⟨trivial, rfl, hJ1⟩
      ·
        rintro _ rfl
        rw [show List.erase [5, 8, 12, 15, 16, 17, 18, 19, 20, 21] 5 = [8, 12, 15, 16, 17, 18, 19, 20, 21] from rfl]; simp only [Act.put, List.setIfInBounds_toArray, List.set_cons_zero, List.set_cons_succ]
        refine TxtT.two 8 12 (by kernel_rfl) (by rw [List.getElem?_toArray]; rfl) (by rw [List.getElem?_toArray]; rfl) (by rfl) (by rfl) (by rfl) (by rfl) (fun v => ∃ A k c, v = Value.slice A k c) (fun v w' => J8 v w') (fun v => v = Value.int .u64 (s.on : Nat)) (fun _ w' => J7 (Value.slice (some ⟨q7, 0, none⟩) 1 1) w') (fun w1 _ hJ1 => ?_) (fun w1 _ hJ1 => ?_) ?_ ?_
        · obtain ⟨X, rfl, hq, hX⟩ := hof7.out _ _ hJ1
          have hXb := hb0 X hX
          injection hq with hq; injection hq with hq; injection hq with hq _ _
          refine Eff.of_list (ops := #[]) (by rfl) ?_
          refine wpList_appI2 (by rfl) _ _ (by rfl) X B vS (s.S.map Int.ofNat) (i : Int) (OwnI.below hst3.st hXb) (by rfl) (by rfl) hq hlS (Nat.le_trans hBW hXb.size) ?_
          intro v' w4 hown4 _ hg4 hv4
          obtain ⟨A4, c4, e4, _⟩ := OwnI.form hown4
          exact ⟨rfl, v', rfl, trivial, ⟨A4, _, c4, e4⟩, hmk8.out X v' w4 hX hown4 hg4 hv4⟩
        · exact Eff.value (w' := w1) (by have g := (hc7.out _ w1 hJ1).2; go_simp) ⟨trivial, rfl, hJ1⟩
        ·
          rintro _ ⟨A8, k8, c8, rfl⟩
          rw [show List.erase [8, 12, 15, 16, 17, 18, 19, 20, 21] 8 = [12, 15, 16, 17, 18, 19, 20, 21] from rfl]; simp only [Act.put, List.setIfInBounds_toArray, List.set_cons_zero, List.set_cons_succ]
          refine TxtT.one 12 (by kernel_rfl) (by rw [List.getElem?_toArray]; rfl) (by rfl) (by rfl) (fun v => v = Value.int .u64 (s.on : Nat)) (fun _ w' => J8 (Value.slice A8 k8 c8) w') (fun w1 _ hJ1 => ?_) ?_
          · exact Eff.value (w' := w1) (by have g := (hc8.out _ w1 hJ1); go_simp) ⟨trivial, rfl, hJ1⟩
          rintro _ rfl
          rw [show List.erase [12, 15, 16, 17, 18, 19, 20, 21] 12 = [15, 16, 17, 18, 19, 20, 21] from rfl]; simp only [Act.put, List.setIfInBounds_toArray, List.set_cons_zero, List.set_cons_succ]
          refine TxtT.pure 15 (by rfl) (by rw [List.getElem?_toArray]; rfl) (by rfl) (by kernel_rfl) (by rfl) ?_; apply Exists.intro; refine ⟨fun w1 hS1 => ?_, ?_⟩; (focus (skip; go_simp; with_reducible rfl))
          rw [show List.erase [15, 16, 17, 18, 19, 20, 21] 15 = [16, 17, 18, 19, 20, 21] from rfl]; simp only [Act.put, List.setIfInBounds_toArray, List.set_cons_zero, List.set_cons_succ]
          refine TxtT.pure 16 (by rfl) (by rw [List.getElem?_toArray]; rfl) (by rfl) (by kernel_rfl) (by rfl) ?_; apply Exists.intro; refine ⟨fun w1 hS1 => ?_, ?_⟩; (focus (skip; go_simp; with_reducible rfl))
          rw [show List.erase [16, 17, 18, 19, 20, 21] 16 = [17, 18, 19, 20, 21] from rfl]; simp only [Act.put, List.setIfInBounds_toArray, List.set_cons_zero, List.set_cons_succ]
          refine TxtT.pure 17 (by rfl) (by rw [List.getElem?_toArray]; rfl) (by rfl) (by kernel_rfl) (by rfl) ?_; apply Exists.intro; refine ⟨fun w1 hS1 => ?_, ?_⟩; (focus (skip; go_simp; with_reducible rfl))
          rw [show List.erase [17, 18, 19, 20, 21] 17 = [18, 19, 20, 21] from rfl]; simp only [Act.put, List.setIfInBounds_toArray, List.set_cons_zero, List.set_cons_succ]
          refine TxtT.one 18 (by kernel_rfl) (by rw [List.getElem?_toArray]; rfl) (by rfl) (by rfl) (fun v => v = undef) (fun _ w' => J18 (Value.slice A8 k8 c8) w') (fun w1 _ hJ1 => ?_) ?_
          · have g := h18c.out _ w1 hJ1; exact Eff.skip (w' := w1.setCell ⟨p, 4, none⟩ (Value.slice A8 k8 c8)) (by go_simp) ⟨trivial, rfl, h18.out _ w1 hJ1⟩
          rintro _ rfl
          rw [show List.erase [18, 19, 20, 21] 18 = [19, 20, 21] from rfl]; simp only [Act.put]
          refine TxtT.pure 19 (by rfl) (by rw [List.getElem?_toArray]; rfl) (by rfl) (by kernel_rfl) (by rfl) ?_; apply Exists.intro; refine ⟨fun w1 hS1 => ?_, ?_⟩; (focus (skip; go_simp; with_reducible rfl))
          rw [show List.erase [19, 20, 21] 19 = [20, 21] from rfl]; simp only [Act.put, List.setIfInBounds_toArray, List.set_cons_zero, List.set_cons_succ]
          refine TxtT.pure 20 (by rfl) (by rw [List.getElem?_toArray]; rfl) (by rfl) (by kernel_rfl) (by rfl) ?_; apply Exists.intro; refine ⟨fun w1 hS1 => ?_, ?_⟩; (focus (skip; go_simp; with_reducible rfl))
          rw [show List.erase [20, 21] 20 = [21] from rfl]; simp only [Act.put, List.setIfInBounds_toArray, List.set_cons_zero, List.set_cons_succ]
          refine TxtT.one 21 (by kernel_rfl) (by rw [List.getElem?_toArray]; rfl) (by rfl) (by rfl) (fun v => v = undef) (fun _ w' => J21 (Value.slice A8 k8 c8) w') (fun w1 _ hJ1 => ?_) ?_
          · have g := h21c.out _ w1 hJ1; exact Eff.skip (w' := w1.setCell ⟨p, 5, none⟩ (.int .u64 (on' : Int))) (by go_simp) ⟨trivial, rfl, h21.out _ w1 hJ1⟩
          rintro _ rfl
          rw [show List.erase [21] 21 = [] from rfl]; simp only [Act.put]
          refine ⟨rfl, fun w1 _ hJ1 => ?_⟩
          go_wp2_with fail
          go_meet
          exact ⟨_, hJ1⟩
        ·
          rintro _ rfl
          rw [show List.erase [8, 12, 15, 16, 17, 18, 19, 20, 21] 12 = [8, 15, 16, 17, 18, 19, 20, 21] from rfl]; simp only [Act.put, List.setIfInBounds_toArray, List.set_cons_zero, List.set_cons_succ]
          refine TxtT.pure 15 (by rfl) (by rw [List.getElem?_toArray]; rfl) (by rfl) (by kernel_rfl) (by rfl) ?_; apply Exists.intro; refine ⟨fun w1 hS1 => ?_, ?_⟩; (focus (skip; go_simp; with_reducible rfl))
          rw [show List.erase [8, 15, 16, 17, 18, 19, 20, 21] 15 = [8, 16, 17, 18, 19, 20, 21] from rfl]; simp only [Act.put, List.setIfInBounds_toArray, List.set_cons_zero, List.set_cons_succ]
          refine TxtT.one 8 (by kernel_rfl) (by rw [List.getElem?_toArray]; rfl) (by rfl) (by rfl) (fun v => ∃ A k c, v = Value.slice A k c) (fun v w' => J8 v w') (fun w1 _ hJ1 => ?_) ?_
          · obtain ⟨X, rfl, hq, hX⟩ := hof7.out _ _ hJ1
            have hXb := hb0 X hX
            injection hq with hq; injection hq with hq; injection hq with hq _ _
            refine Eff.of_list (ops := #[]) (by rfl) ?_
            refine wpList_appI2 (by rfl) _ _ (by rfl) X B vS (s.S.map Int.ofNat) (i : Int) (OwnI.below hst3.st hXb) (by rfl) (by rfl) hq hlS (Nat.le_trans hBW hXb.size) ?_
            intro v' w4 hown4 _ hg4 hv4
            obtain ⟨A4, c4, e4, _⟩ := OwnI.form hown4
            exact ⟨rfl, v', rfl, trivial, ⟨A4, _, c4, e4⟩, hmk8.out X v' w4 hX hown4 hg4 hv4⟩
          rintro _ ⟨A8, k8, c8, rfl⟩
          rw [show List.erase [8, 16, 17, 18, 19, 20, 21] 8 = [16, 17, 18, 19, 20, 21] from rfl]; simp only [Act.put, List.setIfInBounds_toArray, List.set_cons_zero, List.set_cons_succ]
          refine TxtT.pure 16 (by rfl) (by rw [List.getElem?_toArray]; rfl) (by rfl) (by kernel_rfl) (by rfl) ?_; apply Exists.intro; refine ⟨fun w1 hS1 => ?_, ?_⟩; (focus (skip; go_simp; with_reducible rfl))
          rw [show List.erase [16, 17, 18, 19, 20, 21] 16 = [17, 18, 19, 20, 21] from rfl]; simp only [Act.put, List.setIfInBounds_toArray, List.set_cons_zero, List.set_cons_succ]
          refine TxtT.pure 17 (by rfl) (by rw [List.getElem?_toArray]; rfl) (by rfl) (by kernel_rfl) (by rfl) ?_; apply Exists.intro; refine ⟨fun w1 hS1 => ?_, ?_⟩; (focus (skip; go_simp; with_reducible rfl))
          rw [show List.erase [17, 18, 19, 20, 21] 17 = [18, 19, 20, 21] from rfl]; simp only [Act.put, List.setIfInBounds_toArray, List.set_cons_zero, List.set_cons_succ]
          refine TxtT.one 18 (by kernel_rfl) (by rw [List.getElem?_toArray]; rfl) (by rfl) (by rfl) (fun v => v = undef) (fun _ w' => J18 (Value.slice A8 k8 c8) w') (fun w1 _ hJ1 => ?_) ?_
          · have g := h18c.out _ w1 hJ1; exact Eff.skip (w' := w1.setCell ⟨p, 4, none⟩ (Value.slice A8 k8 c8)) (by go_simp) ⟨trivial, rfl, h18.out _ w1 hJ1⟩
          rintro _ rfl
          rw [show List.erase [18, 19, 20, 21] 18 = [19, 20, 21] from rfl]; simp only [Act.put]
          refine TxtT.pure 19 (by rfl) (by rw [List.getElem?_toArray]; rfl) (by rfl) (by kernel_rfl) (by rfl) ?_; apply Exists.intro; refine ⟨fun w1 hS1 => ?_, ?_⟩; (focus (skip; go_simp; with_reducible rfl))
          rw [show List.erase [19, 20, 21] 19 = [20, 21] from rfl]; simp only [Act.put, List.setIfInBounds_toArray, List.set_cons_zero, List.set_cons_succ]
          refine TxtT.pure 20 (by rfl) (by rw [List.getElem?_toArray]; rfl) (by rfl) (by kernel_rfl) (by rfl) ?_; apply Exists.intro; refine ⟨fun w1 hS1 => ?_, ?_⟩; (focus (skip; go_simp; with_reducible rfl))
          rw [show List.erase [20, 21] 20 = [21] from rfl]; simp only [Act.put, List.setIfInBounds_toArray, List.set_cons_zero, List.set_cons_succ]
          refine TxtT.one 21 (by kernel_rfl) (by rw [List.getElem?_toArray]; rfl) (by rfl) (by rfl) (fun v => v = undef) (fun _ w' => J21 (Value.slice A8 k8 c8) w') (fun w1 _ hJ1 => ?_) ?_
          · have g := h21c.out _ w1 hJ1; exact Eff.skip (w' := w1.setCell ⟨p, 5, none⟩ (.int .u64 (on' : Int))) (by go_simp) ⟨trivial, rfl, h21.out _ w1 hJ1⟩
          rintro _ rfl
          rw [show List.erase [21] 21 = [] from rfl]; simp only [Act.put]
          refine ⟨rfl, fun w1 _ hJ1 => ?_⟩
          go_wp2_with fail
          go_meet
          exact ⟨_, hJ1⟩
      ·
        rintro _ rfl
        rw [show List.erase [5, 8, 12, 15, 16, 17, 18, 19, 20, 21] 12 = [5, 8, 15, 16, 17, 18, 19, 20, 21] from rfl]; simp only [Act.put, List.setIfInBounds_toArray, List.set_cons_zero, List.set_cons_succ]
        refine TxtT.pure 15 (by rfl) (by rw [List.getElem?_toArray]; rfl) (by rfl) (by kernel_rfl) (by rfl) ?_; apply Exists.intro; refine ⟨fun w1 hS1 => ?_, ?_⟩; (focus (skip; go_simp; with_reducible rfl))
        rw [show List.erase [5, 8, 15, 16, 17, 18, 19, 20, 21] 15 = [5, 8, 16, 17, 18, 19, 20, 21] from rfl]; simp only [Act.put, List.setIfInBounds_toArray, List.set_cons_zero, List.set_cons_succ]
        refine TxtT.one 5 (by kernel_rfl) (by rw [List.getElem?_toArray]; rfl) (by rfl) (by rfl) (fun v => vS = v) (fun _ w' => J7 (Value.slice (some ⟨q7, 0, none⟩) 1 1) w') (fun w1 _ hJ1 => ?_) ?_
        · exact Eff.value (w' := w1) (by have g := (hc7.out _ w1 hJ1).1; go_simp) ⟨trivial, rfl, hJ1⟩
        rintro _ rfl
        rw [show List.erase [5, 8, 16, 17, 18, 19, 20, 21] 5 = [8, 16, 17, 18, 19, 20, 21] from rfl]; simp only [Act.put, List.setIfInBounds_toArray, List.set_cons_zero, List.set_cons_succ]
        refine TxtT.one 8 (by kernel_rfl) (by rw [List.getElem?_toArray]; rfl) (by rfl) (by rfl) (fun v => ∃ A k c, v = Value.slice A k c) (fun v w' => J8 v w') (fun w1 _ hJ1 => ?_) ?_
        · obtain ⟨X, rfl, hq, hX⟩ := hof7.out _ _ hJ1
          have hXb := hb0 X hX
          injection hq with hq; injection hq with hq; injection hq with hq _ _
          refine Eff.of_list (ops := #[]) (by rfl) ?_
          refine wpList_appI2 (by rfl) _ _ (by rfl) X B vS (s.S.map Int.ofNat) (i : Int) (OwnI.below hst3.st hXb) (by rfl) (by rfl) hq hlS (Nat.le_trans hBW hXb.size) ?_
          intro v' w4 hown4 _ hg4 hv4
          obtain ⟨A4, c4, e4, _⟩ := OwnI.form hown4
          exact ⟨rfl, v', rfl, trivial, ⟨A4, _, c4, e4⟩, hmk8.out X v' w4 hX hown4 hg4 hv4⟩
        rintro _ ⟨A8, k8, c8, rfl⟩
        rw [show List.erase [8, 16, 17, 18, 19, 20, 21] 8 = [16, 17, 18, 19, 20, 21] from rfl]; simp only [Act.put, List.setIfInBounds_toArray, List.set_cons_zero, List.set_cons_succ]
        refine TxtT.pure 16 (by rfl) (by rw [List.getElem?_toArray]; rfl) (by rfl) (by kernel_rfl) (by rfl) ?_; apply Exists.intro; refine ⟨fun w1 hS1 => ?_, ?_⟩; (focus (skip; go_simp; with_reducible rfl))
        rw [show List.erase [16, 17, 18, 19, 20, 21] 16 = [17, 18, 19, 20, 21] from rfl]; simp only [Act.put, List.setIfInBounds_toArray, List.set_cons_zero, List.set_cons_succ]
        refine TxtT.pure 17 (by rfl) (by rw [List.getElem?_toArray]; rfl) (by rfl) (by kernel_rfl) (by rfl) ?_; apply Exists.intro; refine ⟨fun w1 hS1 => ?_, ?_⟩; (focus (skip; go_simp; with_reducible rfl))
        rw [show List.erase [17, 18, 19, 20, 21] 17 = [18, 19, 20, 21] from rfl]; simp only [Act.put, List.setIfInBounds_toArray, List.set_cons_zero, List.set_cons_succ]
        refine TxtT.one 18 (by kernel_rfl) (by rw [List.getElem?_toArray]; rfl) (by rfl) (by rfl) (fun v => v = undef) (fun _ w' => J18 (Value.slice A8 k8 c8) w') (fun w1 _ hJ1 => ?_) ?_
        · have g := h18c.out _ w1 hJ1; exact Eff.skip (w' := w1.setCell ⟨p, 4, none⟩ (Value.slice A8 k8 c8)) (by go_simp) ⟨trivial, rfl, h18.out _ w1 hJ1⟩
        rintro _ rfl
        rw [show List.erase [18, 19, 20, 21] 18 = [19, 20, 21] from rfl]; simp only [Act.put]
        refine TxtT.pure 19 (by rfl) (by rw [List.getElem?_toArray]; rfl) (by rfl) (by kernel_rfl) (by rfl) ?_; apply Exists.intro; refine ⟨fun w1 hS1 => ?_, ?_⟩; (focus (skip; go_simp; with_reducible rfl))
        rw [show List.erase [19, 20, 21] 19 = [20, 21] from rfl]; simp only [Act.put, List.setIfInBounds_toArray, List.set_cons_zero, List.set_cons_succ]
        refine TxtT.pure 20 (by rfl) (by rw [List.getElem?_toArray]; rfl) (by rfl) (by kernel_rfl) (by rfl) ?_; apply Exists.intro; refine ⟨fun w1 hS1 => ?_, ?_⟩; (focus (skip; go_simp; with_reducible rfl))
        rw [show List.erase [20, 21] 20 = [21] from rfl]; simp only [Act.put, List.setIfInBounds_toArray, List.set_cons_zero, List.set_cons_succ]
        refine TxtT.one 21 (by kernel_rfl) (by rw [List.getElem?_toArray]; rfl) (by rfl) (by rfl) (fun v => v = undef) (fun _ w' => J21 (Value.slice A8 k8 c8) w') (fun w1 _ hJ1 => ?_) ?_
        · have g := h21c.out _ w1 hJ1; exact Eff.skip (w' := w1.setCell ⟨p, 5, none⟩ (.int .u64 (on' : Int))) (by go_simp) ⟨trivial, rfl, h21.out _ w1 hJ1⟩
        rintro _ rfl
        rw [show List.erase [21] 21 = [] from rfl]; simp only [Act.put]
        refine ⟨rfl, fun w1 _ hJ1 => ?_⟩
        go_wp2_with fail
        go_meet
        exact ⟨_, hJ1⟩
    ·
      rintro _ rfl
      rw [show List.erase [5, 7, 8, 12, 15, 16, 17, 18, 19, 20, 21] 12 = [5, 7, 8, 15, 16, 17, 18, 19, 20, 21] from rfl]; simp only [Act.put, List.setIfInBounds_toArray, List.set_cons_zero, List.set_cons_succ]
      refine TxtT.pure 15 (by rfl) (by rw [List.getElem?_toArray]; rfl) (by rfl) (by kernel_rfl) (by rfl) ?_; apply Exists.intro; refine ⟨fun w1 hS1 => ?_, ?_⟩; (focus (skip; go_simp; with_reducible rfl))
      rw [show List.erase [5, 7, 8, 15, 16, 17, 18, 19, 20, 21] 15 = [5, 7, 8, 16, 17, 18, 19, 20, 21] from rfl]; simp only [Act.put, List.setIfInBounds_toArray, List.set_cons_zero, List.set_cons_succ]
      refine TxtT.two 5 7 (by kernel_rfl) (by rw [List.getElem?_toArray]; rfl) (by rw [List.getElem?_toArray]; rfl) (by rfl) (by rfl) (by rfl) (by rfl) (fun v => vS = v) (fun _ w' => J0 w') (fun v => ∃ q, v = Value.slice (some ⟨q, 0, none⟩) 1 1) (fun v w' => J7 v w') (fun w1 _ hJ1 => ?_) (fun w1 _ hJ1 => ?_) ?_ ?_
      · exact Eff.value (w' := w1) (by have g := (hc0.out w1 hJ1).1; go_simp) ⟨trivial, rfl, hJ1⟩
      · exact Eff.value (w' := w1.alloc (.cells #[.int .i64 (i : Int)] 3)) (v := .slice (some ⟨w1.heap.size, 0, none⟩) 1 1) (by go_simp) ⟨trivial, ⟨_, rfl⟩, hmk7.out w1 hJ1⟩
      ·
        rintro _ rfl
        rw [show List.erase [5, 7, 8, 16, 17, 18, 19, 20, 21] 5 = [7, 8, 16, 17, 18, 19, 20, 21] from rfl]; simp only [Act.put, List.setIfInBounds_toArray, List.set_cons_zero, List.set_cons_succ]
        refine TxtT.one 7 (by kernel_rfl) (by rw [List.getElem?_toArray]; rfl) (by rfl) (by rfl) (fun v => ∃ q, v = Value.slice (some ⟨q, 0, none⟩) 1 1) (fun v w' => J7 v w') (fun w1 _ hJ1 => ?_) ?_
        · exact Eff.value (w' := w1.alloc (.cells #[.int .i64 (i : Int)] 3)) (v := .slice (some ⟨w1.heap.size, 0, none⟩) 1 1) (by go_simp) ⟨trivial, ⟨_, rfl⟩, hmk7.out w1 hJ1⟩
        rintro _ ⟨q7, rfl⟩
        rw [show List.erase [7, 8, 16, 17, 18, 19, 20, 21] 7 = [8, 16, 17, 18, 19, 20, 21] from rfl]; simp only [Act.put, List.setIfInBounds_toArray, List.set_cons_zero, List.set_cons_succ]
        refine TxtT.one 8 (by kernel_rfl) (by rw [List.getElem?_toArray]; rfl) (by rfl) (by rfl) (fun v => ∃ A k c, v = Value.slice A k c) (fun v w' => J8 v w') (fun w1 _ hJ1 => ?_) ?_
        · obtain ⟨X, rfl, hq, hX⟩ := hof7.out _ _ hJ1
          have hXb := hb0 X hX
          injection hq with hq; injection hq with hq; injection hq with hq _ _
          refine Eff.of_list (ops := #[]) (by rfl) ?_
          refine wpList_appI2 (by rfl) _ _ (by rfl) X B vS (s.S.map Int.ofNat) (i : Int) (OwnI.below hst3.st hXb) (by rfl) (by rfl) hq hlS (Nat.le_trans hBW hXb.size) ?_
          intro v' w4 hown4 _ hg4 hv4
          obtain ⟨A4, c4, e4, _⟩ := OwnI.form hown4
          exact ⟨rfl, v', rfl, trivial, ⟨A4, _, c4, e4⟩, hmk8.out X v' w4 hX hown4 hg4 hv4⟩
        rintro _ ⟨A8, k8, c8, rfl⟩
        rw [show List.erase [8, 16, 17, 18, 19, 20, 21] 8 = [16, 17, 18, 19, 20, 21] from rfl]; simp only [Act.put, List.setIfInBounds_toArray, List.set_cons_zero, List.set_cons_succ]
        refine TxtT.pure 16 (by rfl) (by rw [List.getElem?_toArray]; rfl) (by rfl) (by kernel_rfl) (by rfl) ?_; apply Exists.intro; refine ⟨fun w1 hS1 => ?_, ?_⟩; (focus (skip; go_simp; with_reducible rfl))
        rw [show List.erase [16, 17, 18, 19, 20, 21] 16 = [17, 18, 19, 20, 21] from rfl]; simp only [Act.put, List.setIfInBounds_toArray, List.set_cons_zero, List.set_cons_succ]
        refine TxtT.pure 17 (by rfl) (by rw [List.getElem?_toArray]; rfl) (by rfl) (by kernel_rfl) (by rfl) ?_; apply Exists.intro; refine ⟨fun w1 hS1 => ?_, ?_⟩; (focus (skip; go_simp; with_reducible rfl))
        rw [show List.erase [17, 18, 19, 20, 21] 17 = [18, 19, 20, 21] from rfl]; simp only [Act.put, List.setIfInBounds_toArray, List.set_cons_zero, List.set_cons_succ]
        refine TxtT.one 18 (by kernel_rfl) (by rw [List.getElem?_toArray]; rfl) (by rfl) (by rfl) (fun v => v = undef) (fun _ w' => J18 (Value.slice A8 k8 c8) w') (fun w1 _ hJ1 => ?_) ?_
        · have g := h18c.out _ w1 hJ1; exact Eff.skip (w' := w1.setCell ⟨p, 4, none⟩ (Value.slice A8 k8 c8)) (by go_simp) ⟨trivial, rfl, h18.out _ w1 hJ1⟩
        rintro _ rfl
        rw [show List.erase [18, 19, 20, 21] 18 = [19, 20, 21] from rfl]; simp only [Act.put]
        refine TxtT.pure 19 (by rfl) (by rw [List.getElem?_toArray]; rfl) (by rfl) (by kernel_rfl) (by rfl) ?_; apply Exists.intro; refine ⟨fun w1 hS1 => ?_, ?_⟩; (focus (skip; go_simp; with_reducible rfl))
        rw [show List.erase [19, 20, 21] 19 = [20, 21] from rfl]; simp only [Act.put, List.setIfInBounds_toArray, List.set_cons_zero, List.set_cons_succ]
        refine TxtT.pure 20 (by rfl) (by rw [List.getElem?_toArray]; rfl) (by rfl) (by kernel_rfl) (by rfl) ?_; apply Exists.intro; refine ⟨fun w1 hS1 => ?_, ?_⟩; (focus (skip; go_simp; with_reducible rfl))
        rw [show List.erase [20, 21] 20 = [21] from rfl]; simp only [Act.put, List.setIfInBounds_toArray, List.set_cons_zero, List.set_cons_succ]
        refine TxtT.one 21 (by kernel_rfl) (by rw [List.getElem?_toArray]; rfl) (by rfl) (by rfl) (fun v => v = undef) (fun _ w' => J21 (Value.slice A8 k8 c8) w') (fun w1 _ hJ1 => ?_) ?_
        · have g := h21c.out _ w1 hJ1; exact Eff.skip (w' := w1.setCell ⟨p, 5, none⟩ (.int .u64 (on' : Int))) (by go_simp) ⟨trivial, rfl, h21.out _ w1 hJ1⟩
        rintro _ rfl
        rw [show List.erase [21] 21 = [] from rfl]; simp only [Act.put]
        refine ⟨rfl, fun w1 _ hJ1 => ?_⟩
        go_wp2_with fail
        go_meet
        exact ⟨_, hJ1⟩
      ·
        rintro _ ⟨q7, rfl⟩
        rw [show List.erase [5, 7, 8, 16, 17, 18, 19, 20, 21] 7 = [5, 8, 16, 17, 18, 19, 20, 21] from rfl]; simp only [Act.put, List.setIfInBounds_toArray, List.set_cons_zero, List.set_cons_succ]
        refine TxtT.one 5 (by kernel_rfl) (by rw [List.getElem?_toArray]; rfl) (by rfl) (by rfl) (fun v => vS = v) (fun _ w' => J7 (Value.slice (some ⟨q7, 0, none⟩) 1 1) w') (fun w1 _ hJ1 => ?_) ?_
        · exact Eff.value (w' := w1) (by have g := (hc7.out _ w1 hJ1).1; go_simp) ⟨trivial, rfl, hJ1⟩
        rintro _ rfl
        rw [show List.erase [5, 8, 16, 17, 18, 19, 20, 21] 5 = [8, 16, 17, 18, 19, 20, 21] from rfl]; simp only [Act.put, List.setIfInBounds_toArray, List.set_cons_zero, List.set_cons_succ]
        refine TxtT.one 8 (by kernel_rfl) (by rw [List.getElem?_toArray]; rfl) (by rfl) (by rfl) (fun v => ∃ A k c, v = Value.slice A k c) (fun v w' => J8 v w') (fun w1 _ hJ1 => ?_) ?_
        · obtain ⟨X, rfl, hq, hX⟩ := hof7.out _ _ hJ1
          have hXb := hb0 X hX
          injection hq with hq; injection hq with hq; injection hq with hq _ _
          refine Eff.of_list (ops := #[]) (by rfl) ?_
          refine wpList_appI2 (by rfl) _ _ (by rfl) X B vS (s.S.map Int.ofNat) (i : Int) (OwnI.below hst3.st hXb) (by rfl) (by rfl) hq hlS (Nat.le_trans hBW hXb.size) ?_
          intro v' w4 hown4 _ hg4 hv4
          obtain ⟨A4, c4, e4, _⟩ := OwnI.form hown4
          exact ⟨rfl, v', rfl, trivial, ⟨A4, _, c4, e4⟩, hmk8.out X v' w4 hX hown4 hg4 hv4⟩
        rintro _ ⟨A8, k8, c8, rfl⟩
        rw [show List.erase [8, 16, 17, 18, 19, 20, 21] 8 = [16, 17, 18, 19, 20, 21] from rfl]; simp only [Act.put, List.setIfInBounds_toArray, List.set_cons_zero, List.set_cons_succ]
        refine TxtT.pure 16 (by rfl) (by rw [List.getElem?_toArray]; rfl) (by rfl) (by kernel_rfl) (by rfl) ?_; apply Exists.intro; refine ⟨fun w1 hS1 => ?_, ?_⟩; (focus (skip; go_simp; with_reducible rfl))
        rw [show List.erase [16, 17, 18, 19, 20, 21] 16 = [17, 18, 19, 20, 21] from rfl]; simp only [Act.put, List.setIfInBounds_toArray, List.set_cons_zero, List.set_cons_succ]
        refine TxtT.pure 17 (by rfl) (by rw [List.getElem?_toArray]; rfl) (by rfl) (by kernel_rfl) (by rfl) ?_; apply Exists.intro; refine ⟨fun w1 hS1 => ?_, ?_⟩; (focus (skip; go_simp; with_reducible rfl))
        rw [show List.erase [17, 18, 19, 20, 21] 17 = [18, 19, 20, 21] from rfl]; simp only [Act.put, List.setIfInBounds_toArray, List.set_cons_zero, List.set_cons_succ]
        refine TxtT.one 18 (by kernel_rfl) (by rw [List.getElem?_toArray]; rfl) (by rfl) (by rfl) (fun v => v = undef) (fun _ w' => J18 (Value.slice A8 k8 c8) w') (fun w1 _ hJ1 => ?_) ?_
        · have g := h18c.out _ w1 hJ1; exact Eff.skip (w' := w1.setCell ⟨p, 4, none⟩ (Value.slice A8 k8 c8)) (by go_simp) ⟨trivial, rfl, h18.out _ w1 hJ1⟩
        rintro _ rfl
        rw [show List.erase [18, 19, 20, 21] 18 = [19, 20, 21] from rfl]; simp only [Act.put]
        refine TxtT.pure 19 (by rfl) (by rw [List.getElem?_toArray]; rfl) (by rfl) (by kernel_rfl) (by rfl) ?_; apply Exists.intro; refine ⟨fun w1 hS1 => ?_, ?_⟩; (focus (skip; go_simp; with_reducible rfl))
        rw [show List.erase [19, 20, 21] 19 = [20, 21] from rfl]; simp only [Act.put, List.setIfInBounds_toArray, List.set_cons_zero, List.set_cons_succ]
        refine TxtT.pure 20 (by rfl) (by rw [List.getElem?_toArray]; rfl) (by rfl) (by kernel_rfl) (by rfl) ?_; apply Exists.intro; refine ⟨fun w1 hS1 => ?_, ?_⟩; (focus (skip; go_simp; with_reducible rfl))
        rw [show List.erase [20, 21] 20 = [21] from rfl]; simp only [Act.put, List.setIfInBounds_toArray, List.set_cons_zero, List.set_cons_succ]
        refine TxtT.one 21 (by kernel_rfl) (by rw [List.getElem?_toArray]; rfl) (by rfl) (by rfl) (fun v => v = undef) (fun _ w' => J21 (Value.slice A8 k8 c8) w') (fun w1 _ hJ1 => ?_) ?_
        · have g := h21c.out _ w1 hJ1; exact Eff.skip (w' := w1.setCell ⟨p, 5, none⟩ (.int .u64 (on' : Int))) (by go_simp) ⟨trivial, rfl, h21.out _ w1 hJ1⟩
        rintro _ rfl
        rw [show List.erase [21] 21 = [] from rfl]; simp only [Act.put]
        refine ⟨rfl, fun w1 _ hJ1 => ?_⟩
        go_wp2_with fail
        go_meet
        exact ⟨_, hJ1⟩
  obtain ⟨v8, hJ⟩ := hcut
  rw [hJ21] at hJ
  obtain ⟨hst8, hm8, hv8⟩ := hJ
  subst hb1
  subst hc1
  subst hon'
  have hst8 : TjSt B n (mkM l) p gN gO gL (s.push i) v8 vF wc := hst8
  have hm8 := hm3.trans hm8 (fun _ _ h => h)
  have hv8 : ∀ k, v8.ownBlock = some k → vS.ownBlock = some k ∨ w.heap.size ≤ k := fun k hk => (hv8 k hk).imp id (fun h => Nat.le_trans hm3.size h)
  clear hJ21 hb0 hJd hc0 hc7 hc8 h18c h18 h21c h21 hmk7 hof7 hmk8 hm3 hst3 hlS hBW hcv h1 hor hon64 hi64 hpS
  have hT8 : Tab wc := hT.mu hm8 hcold
  obtain ⟨e0, -, -, -, -, -, -, -⟩ := hst8.facts
  have cm := World.rowIs.cell hst8.nx hin
  have hml : mkM l i < 18446744073709551616 := u64_of hn40 (mkM_lt (n := n) (fun p hp => by have := hv.1.2.2 p hp; omega) i)
  have hN : ∀ x ∈ nodesB 64 (mkM l i).testBit, ∃ a : Nat, x = a ∧ a < n ∧ att l i a := fun x hx => by
    obtain ⟨a, _, ha, rfl⟩ := mem_nodesB.1 hx
    have := (has_mkM hv.1 i a).1 ha
    exact ⟨a, rfl, (att_lt hv.1 this).2, this⟩
  have hD : ∀ y, att l i y → y ∈ (nodesB 64 (mkM l i).testBit).map Int.toNat := fun y hy =>
    List.mem_map.2 ⟨(y : Int), mem_nodesB.2 ⟨y, by have := (att_lt hv.1 hy).2; omega, (has_mkM hv.1 i y).2 hy, rfl⟩, Int.toNat_natCast y⟩
  have hkl := nodesB_length 64 (mkM l i).testBit
  have HN := Lib.hid hN; have HD := Lib.hid hD
  clear hN hD
  go_wp2_with fail
  refine (glist_any (mkM l i) hml wc hT8).mono ?_
  rintro e w5 ⟨A5, c5, rfl, ho5, -, -, hb5⟩
  clear e0 cm hml
  have hst5 := hst8.below hb5
  have hm5 : Mut (TjHot p gO gL vS vF) w w5 := hm8.trans (Mut.of_below hb5) (fun _ _ h => h)
  have hvS8 := fun k hk => (OwnI.blocks hst8.st k hk).2
  have hvF8 := fun k hk => (OwnU.block hst8.fd k hk).2
  have hlp : TjLp B n l p gN gO gL G s vS vF i w wc.heap.size (.slice A5 (nodesB 64 (mkM l i).testBit).length c5) (nodesB 64 (mkM l i).testBit) 0 (s.push i) v8 vF w5 :=
    { st := hst5, lp := HTL.out, mu := hm5, hS := hv8, hF := fun k hk => .inl hk, own := ho5, hb5 := hst8.hB
      f1 := fun k hk e => by have := hvS8 k hk; have := (OwnI.blocks ho5 k e).1; omega
      f2 := fun k hk e => by have := hvF8 k hk; have := (OwnI.blocks ho5 k e).1; omega }
  clear hvS8 hvF8 hm5 hst5 hst8 hm8 hv8 hT8 ho5 hb5 HTL
  generalize nodesB 64 (mkM l i).testBit = ks at *
  go_wp2_with fail
  go_loopw [64] (fun t wr => ∃ (q : Nat) (s1 : TS) (v1 u1 : Value), q ≤ ks.length ∧ t = .int .i64 q ∧ TjLp B n l p gN gO gL G s vS vF i w wc.heap.size (.slice A5 ks.length c5) ks q s1 v1 u1 wr) (fun t _ => ks.length - (intOf t).toNat)
  case atStart => exact ⟨0, s.push i, v8, vF, Nat.zero_le _, rfl, hlp⟩
  case round =>
    clear hlp
    obtain ⟨q, s1, v1, u1, hq, rfl, hlp⟩ := hrel
    have hTr : Tab wr := hT.mu hlp.mu hcold
    have hon : s1.on < 18446744073709551616 := u64_of hn40 hlp.lp.inv.onlt
    by_cases hql : q < ks.length
    case pos =>
      have hri : RI wr A5 ks := hlp.own.ri
      obtain ⟨b5, o5, rfl, hc5⟩ := hri.at_ hql
      obtain ⟨a, ha, han, hat⟩ := HN.out _ (List.getElem_mem hql)
      have Hat := Lib.hid hat; have Ha := Lib.hid ha
      rw [ha] at hc5
      clear ha hat hri
      have f0 := hlp.st.facts
      have e1 := f0.2.1
      have co := hlp.st.o.cell han
      have ha0 : (0 : Int) ≤ (a : Int) := by omega
      have ha1 : (a : Int) < (n : Int) := by omega
      have hi0 : (0 : Int) ≤ (i : Int) := by omega
      have hi1 : (i : Int) < (n : Int) := by omega
      by_cases h0a : s1.o a = 0
      case pos =>
        have co0 : wr.cell? ⟨gO, a, none⟩ = some (.int .i64 0) := by rw [co, h0a]; rfl
        have H0a := Lib.hid h0a
        clear h0a f0 co
        go_wp2_with fail
        refine (Hih.out s1 v1 u1 (i :: G) a wr (by have := hlp.lp.ctle; omega) hlp.st hlp.lp.inv han H0a.out (fun g hg => ?_) hTr).mono ?_
        · rcases List.mem_cons.1 hg with e | e
          · rw [e]; exact Rc.one Hat.out
          · exact (hlp.lp.gi g e).trans (Rc.one Hat.out)
        rintro e w6 ⟨rfl, s2, v2, u2, hst2, hpost, hm2, hv2, hu2⟩
        have hlp2 := hlp.visit hst2 hm2 hv2 hu2 (q' := q + 1) (c := min (s2.lo i) (s2.lo a)) (by rw [take_toNat hql Ha.out]; exact t_child hlp.lp hpost H0a.out Hat.out)
        have Hlp2 := Lib.hid hlp2
        have f2 := hst2.facts
        have e2 := f2.2.2.1
        have fl := hst2.lo.frozen i
        have cl := hst2.lo.cell hin
        have cla := hst2.lo.cell han
        clear hlp2 hst2 hpost hm2 hv2 hu2 f2 hlp co0 hc5 e1
        have hmn : min ((s2.lo i : Nat) : Int) ((s2.lo a : Nat) : Int) = ((min (s2.lo i) (s2.lo a) : Nat) : Int) := by omega
        generalize min (s2.lo i) (s2.lo a) = mn at *
        generalize s2.lo i = x1 at *
        generalize s2.lo a = x2 at *
        go_wp2_with fail
        go_region
        go_wp2_with fail
        go_roundw
        case rel => exact ⟨q + 1, _, _, _, by omega, by go_num, Hlp2.out⟩
        case measure => simp [intOf]; omega
      case neg =>
        have H0a := Lib.hid h0a
        have hd0 : (((s1.o a : Nat) : Int) == 0) = false := by rw [beq_eq_false_iff_ne]; omega
        have e2 := f0.2.2.1
        have e5 := f0.2.2.2.2.2.1
        have fl := hlp.st.lo.frozen i
        have cl := hlp.st.lo.cell hin
        clear h0a f0
        by_cases hb : has s1.on a
        case pos =>
          have hbit := bit_yes hon hb
          have hlp2 := hlp.lower (q' := q + 1) (c := min (s1.lo i) (s1.o a)) (by rw [take_toNat hql Ha.out]; exact t_stack hlp.lp H0a.out hb Hat.out)
          have Hlp2 := Lib.hid hlp2
          clear hlp2 hb
          have hmn : min ((s1.lo i : Nat) : Int) ((s1.o a : Nat) : Int) = ((min (s1.lo i) (s1.o a) : Nat) : Int) := by omega
          have Hlp := Lib.hid hlp; clear hlp
          generalize min (s1.lo i) (s1.o a) = mn at *
          generalize s1.lo i = x1 at *
          generalize s1.o a = x2 at *
          generalize s1.on = x3 at *
          go_wp2_with fail
          go_region
          go_wp2_with fail
          go_roundw
          case rel => exact ⟨q + 1, _, _, _, by omega, by go_num, Hlp2.out⟩
          case measure => simp [intOf]; omega
        case neg =>
          have hbit := bit_no hon hb
          have hlp2 : TjLp B n l p gN gO gL G s vS vF i w wc.heap.size (.slice (some ⟨b5, o5, none⟩) ks.length c5) ks (q + 1) s1 v1 u1 wr := { hlp with lp := by rw [take_toNat hql Ha.out]; exact t_other hlp.lp H0a.out hb }
          have Hlp2 := Lib.hid hlp2
          clear hlp2 hb
          have Hlp := Lib.hid hlp; clear hlp
          generalize s1.o a = x2 at *
          generalize s1.on = x3 at *
          go_wp2_with fail
          go_roundw
          case rel => exact ⟨q + 1, _, _, _, by omega, by go_num, Hlp2.out⟩
          case measure => simp [intOf]; omega
    case neg =>
      obtain rfl : q = ks.length := by omega
      have f0 := hlp.st.facts
      have e1 := f0.2.1
      have e2 := f0.2.2.1
      have co := hlp.st.o.cell hin
      have cl := hlp.st.lo.cell hin
      have hi0 : (0 : Int) ≤ (i : Int) := by omega
      have hi1 : (i : Int) < (n : Int) := by omega
      have hDall : ∀ y, att l i y → y ∈ (ks.take ks.length).map Int.toNat := by rw [List.take_length]; exact HD.out
      by_cases hlt : s1.lo i < s1.o i
      case pos =>
        have hfin := t_keep hlp.lp hDall hlt
        have Hfin := Lib.hid hfin; clear hfin hDall
        have hd : decide (s1.lo i < s1.o i) = true := by simpa using hlt
        have Hlp := Lib.hid hlp; clear hlp f0 hlt
        generalize s1.lo i = x1 at *
        generalize s1.o i = x2 at *
        go_wp2_with fail
        go_quiet (fail)
        go_wp2_with fail
        refine bodyPost_ret (results_none rfl _ _ _) rfl ?_
        have hlp := Hlp.out
        exact ⟨rfl, s1, v1, u1, hlp.st.drewN nq, Hfin.out, hlp.mu.drewN nq, hlp.hS, hlp.hF⟩
      case neg =>
        have hd : decide (s1.lo i < s1.o i) = false := by simpa using hlt
        obtain ⟨T, hS1, hT1, _⟩ := hlp.lp.stk
        have hpp : ∀ q, TjPp B n l p gN gO gL s vS vF i T w s1 (i :: T) [] 0 v1 u1 (wr.drewN q) := fun q =>
          { st := by rw [← hS1]; exact hlp.st.drewN q
            eq := by simp, set := fun x => by simp [has], lt := Nat.two_pow_pos n, mu := hlp.mu.drewN q, hS := hlp.hS, hF := hlp.hF }
        have hnot : ∀ x ∈ T, x ≠ i := fun x hx => (hT1 x hx).2
        have hSn : ∀ x ∈ s.S ++ i :: T, x < n := fun x hx => hlp.lp.inv.rng x (hlp.lp.inv.visS x (by rw [hS1]; exact hx))
        have hord : (s.S ++ i :: T).Pairwise (fun x y => s1.o x < s1.o y) := by rw [← hS1]; exact hlp.lp.inv.ordS
        have hlen : (s.S ++ i :: T).length + s1.F.length ≤ n := by
          rw [← hS1]
          have h1 := hlp.lp.inv.len
          have h2 := hlp.lp.inv.num
          have h3 := List.countP_le_length (p := fun x => decide (s1.o x ≠ 0)) (l := List.range n)
          rw [List.length_range] at h3
          omega
        have hpop : ∀ set, (∀ x, has set x ↔ x ∈ i :: T) → set < 2 ^ n → ∀ on', (∀ x, has on' x ↔ has s1.on x ∧ ¬ has set x) → on' < 2 ^ n → TPost n (att l) G s i { s1 with S := s.S, on := on', F := s1.F ++ [set] } := fun _ a b c d e => t_pop hlp.lp hDall hlt hS1 a b c d e
        have Hpop := Lib.hid hpop; have Hlp := Lib.hid hlp; have Hpp := Lib.hid hpp; have Hnot := Lib.hid hnot; have HSn := Lib.hid hSn; have Hord := Lib.hid hord; have Hlen := Lib.hid hlen
        have hon2 : s1.on < 2 ^ n := hlp.lp.inv.onlt
        clear hlp f0 hlt hDall hpp hnot hSn hord hlen hS1 hT1 hpop
        generalize s1.lo i = x1 at *
        generalize s1.o i = x2 at *
        go_wp2_with fail
        go_quiet (fail)
        clear e1 e2 co cl
        have hpp := Hpp.out nq
        generalize wr.drewN nq = wq at *
        go_wp2_with fail
        go_loopw [6] (fun t wq => ∃ (Q P : List Nat) (z : Nat) (v2 : Value), t = .int .u64 z ∧ TjPp B n l p gN gO gL s vS vF i T w s1 Q P z v2 u1 wq) (fun t _ => 2 ^ n - (intOf t).toNat)
        case atStart => exact ⟨i :: T, [], 0, v1, rfl, hpp⟩
        case round =>
          clear hpp
          obtain ⟨Q, P, z, v2, rfl, hpp⟩ := hrel
          have hz64 : z < 18446744073709551616 := u64_of hn40 hpp.lt
          have heq := hpp.eq
          rcases snoc_cases Q with hQ | ⟨Q', k, hQ⟩
          case inr =>
            subst hQ
            have hsub := tail_mem heq (by simp)
            have hiz : ¬ has z i := fun h => Hnot.out i (hsub i ((hpp.set i).1 h)) rfl
            have hkP : k ∉ P := fun h => by
              have h1 := Hord.out
              rw [heq, ← List.append_assoc] at h1
              have h2 := (List.pairwise_append.1 h1).2.2 k (by simp) k h
              omega
            have hkn : k < n := HSn.out k (by rw [heq]; simp)
            have hkz : ¬ has z k := fun h => hkP ((hpp.set k).1 h)
            have hlz := lt_or_one hkz
            have hbit := bit_no hz64 hiz
            obtain ⟨g, c, rfl, hc, hcell, hnx⟩ := hpp.next hkn
            have hL6 : (s.S ++ Q').length ≤ 40 := by
              have := Hlen.out
              rw [heq] at this
              simp only [List.length_append] at this ⊢
              omega
            have f0 := hpp.st.facts
            have e4 := f0.2.2.2.2.1
            have ef4 := f0.2.2.2.2.2.2.2 4
            have Hnx := Lib.hid hnx
            have Hpp := Lib.hid hpp
            have hzn : z ||| 1 <<< k < 18446744073709551616 := u64_of hn40 hnx.lt
            have hzn2 : z ||| 1 <<< k < 2 ^ n := hnx.lt
            have h1 := u64_one_shl k (by omega)
            rw [Int.one_mul] at h1
            have hor := u64_or_nat z (1 <<< k) hz64 (u64_of hn40 (one_lt hkn))
            clear hpp hnx f0 heq hsub hiz hkP hkz
            generalize (s.S ++ Q').length = L at *
            generalize z ||| 1 <<< k = z2 at *
            generalize 1 <<< k = z3 at *
            have hw1 : IntKind.i64.wrap ((L : Int) + 1 - 1) = (L : Int) := by rw [show (L : Int) + 1 - 1 = L by omega]; exact IntWalk.i64_in _ (by omega)
            go_wp2_with fail
            go_quiet (fail)
            go_wp2_with fail
            go_region
            go_wp2_with fail
            go_roundw
            case rel => exact ⟨Q', k :: P, z2, _, rfl, (Hnx.out.drewN nq).drewN 1⟩
            case measure => simp [intOf]; omega
          case inl =>
            subst hQ
            rw [List.nil_append] at heq
            subst heq
            have hbit := bit_yes hz64 ((hpp.set i).2 (List.mem_cons_self ..))
            have f0 := hpp.st.facts
            have e5 := f0.2.2.2.2.2.1
            have ef5 := f0.2.2.2.2.2.2.2 5
            have hpost := Hpop.out z hpp.set hpp.lt (minusN s1.on z) (fun x => has_minusN hon hz64) (Nat.lt_of_le_of_lt (minusN_le _ _) hon2)
            have hst : TjSt B n (mkM l) p gN gO gL { s1 with S := s.S } v2 u1 wr := by have := hpp.st; rw [List.append_nil] at this; exact this
            have hst2 := hst.onto (minusN s1.on z)
            have hmu := hpp.mu.setCell (q := ⟨p, 5, none⟩) (.inl rfl) (.int .u64 (minusN s1.on z : Nat))
            have hmin := u64_minus s1.on z hon hz64
            have hS2 := hpp.hS; have hF2 := hpp.hF
            have hlF : s1.F.length ≤ 40 := by have := Hlen.out; omega
            have Hpost := Lib.hid hpost; have Hst2 := Lib.hid hst2; have Hmu := Lib.hid hmu
            clear hpost hst hst2 hmu f0 hpp Hpp
            generalize minusN s1.on z = on2 at *
            go_upto_region 19 with fail
            have hst2 := Hst2.out
            have hmu := Hmu.out
            clear e5 ef5 hmin hbit
            generalize wr.setCell ⟨p, 5, none⟩ (.int .u64 (on2 : Int)) = W3 at *
            have hst2 : TjSt B n (mkM l) p gN gO gL ⟨s1.o, s1.lo, s1.ct, s.S, on2, s1.F⟩ v2 u1 W3 := hst2
            have hpF : some p ≠ u1.ownBlock := fun e => by have := (OwnU.block hst2.fd p e.symm).1; have := hst2.hp; omega
            have hBW := hst2.hB
            have e6 : W3.cell? ⟨p, 6, none⟩ = some u1 := hst2.facts.2.2.2.2.2.2.1
            have hkb : ∀ w4, W3.grownBy w4 u1.ownBlock → w4.cell? ⟨p, 6, none⟩ = some u1 ∧ w4.frozen? ⟨p, 6, none⟩ = false := fun w4 hg => by
              have hk := hst2.hd.grown hg hpF
              exact ⟨by rw [hk.cell]; rfl, hk.frozen 6⟩
            have hform : ∀ v w1, OwnU w1 B v (s1.F ++ [z]) → ∃ A k c, v = .slice A k c := fun v w1 h => by
              obtain ⟨h1, h2⟩ := h
              rcases h2 with ⟨e, _⟩ | ⟨g, cap, cur, e, _⟩
              · exact ⟨_, _, _, e⟩
              · exact ⟨_, _, _, e⟩
            have Hkb := Lib.hid hkb; have Hform := Lib.hid hform
            clear hkb hform
            go_wp2_with (at_builtin; refine wpList_appU2 (by rfl) _ _ (by rfl) W3 B u1 s1.F z hst2.fd (by rfl) (by rfl) rfl (by omega) hBW ?_; intro v' w4 hown4 _ hg4 hv4; (obtain ⟨A7, k7, c7, rfl⟩ := Hform.out v' w4 hown4); (obtain ⟨e6b, ef6⟩ := Hkb.out w4 hg4))
            refine bodyPost_ret (results_none rfl _ _ _) rfl ?_
            refine ⟨rfl, _, v2, .slice A7 k7 c7, hst2.find (F' := s1.F ++ [z]) hown4 hg4 hv4, Hpost.out, ?_, hS2, fun k hk => ?_⟩
            · refine Mut.setCell ?_ (.inl rfl) _
              refine hmu.trans (Mut.of_grown (H := fun k => u1.ownBlock = some k) hg4 (fun k hk => hk)) (fun k hk hh => ?_)
              rcases hF2 k hh with e | e
              · exact .inr (.inr (.inr (.inr e)))
              · omega
            · rcases hv4 with hv | hv
              · rw [hv] at hk; exact hF2 k hk
              · have h1 := hv k hk; have h2 := hmu.size; exact .inr (by omega)
end Go.Proofs.YtkflanjlnbdkmaaDoor
