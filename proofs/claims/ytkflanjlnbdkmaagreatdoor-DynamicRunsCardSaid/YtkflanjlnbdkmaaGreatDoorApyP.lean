/- States and changes as the statement DynamicApplies tries them. -/
import Derived.Test.YtkflanjlnbdkmaaGreatDoorR19
namespace Go.Proofs.YtkflanjlnbdkmaaGreatDoor
open Go.ChangeShapes Go.WideShapes Go.ChangeAt Go.RowKit

/-- a state as a value: its graph, its labels, and where they lie -/
structure DSv where
  N : Int
  l : List (Int × Int)
  A : Option Addr
  c : Nat
  b : List Int
  B : Option Addr
  d : Nat
def DSv.val (x : DSv) : Value := .agg #[.int .i64 x.N, .slice x.A x.l.length x.c, .slice x.B x.b.length x.d]
/-- the state can be read, and lies apart from the reader -/
structure DSt (p : Nat) (x : DSv) (w : World) : Prop where
  rp : RP w x.A x.l
  an : x.A = none → x.l = [] ∧ x.c = 0
  ll : x.l.length ≤ 100000
  ri : RI w x.B x.b
  bn : x.B = none → x.b = [] ∧ x.d = 0
  bl : x.b.length ≤ 100000
  ap : ∀ b o, x.A = some ⟨b, o, none⟩ → 0 < x.l.length → b ≠ p
  bp : ∀ b o, x.B = some ⟨b, o, none⟩ → x.b ≠ [] → b ≠ p
theorem DSt.below {p : Nat} {x : DSv} {w w' : World} (h : DSt p x w) (hb : Below w.heap.size w w') : DSt p x w' :=
  ⟨h.rp.below hb, h.an, h.ll, h.ri.below hb, h.bn, h.bl, h.ap, h.bp⟩
theorem DSt.grown {p : Nat} {x : DSv} {w w' : World} (h : DSt p x w) (hg : w.grownBy w' (some p)) : DSt p x w' :=
  ⟨h.rp.grownD hg h.ap, h.an, h.ll, h.ri.grown hg h.bp, h.bn, h.bl, h.ap, h.bp⟩
/-- a state whose lists a call has made -/
theorem DSt.of_own {p m : Nat} {N : Int} {l : List (Int × Int)} {b : List Int} {A B : Option Addr} {c d : Nat} {w : World} (h : OwnP w m (.slice A l.length c) l) (k : OwnI w m (.slice B b.length d) b) (hp : p < m) (hl : l.length ≤ 100000) (hb : b.length ≤ 100000) : DSt p ⟨N, l, A, c, b, B, d⟩ w := by
  have hv := DyV.of_own h k
  exact ⟨hv.rp, hv.an, hl, hv.ri, hv.bn, hb, fun q o e _ => by have := hv.ua q o e; omega, fun q o e _ => by have := hv.ub q o e; omega⟩
/-- the row of states at A -/
def RD (w : World) (A : Option Addr) (sv : Nat → DSv) : Prop := ∀ j, j < 5 → ∃ b o, A = some ⟨b, o, none⟩ ∧ w.cell? ⟨b, o + j * 3, none⟩ = some (.int .i64 (sv j).N) ∧ w.cell? ⟨b, o + j * 3 + 1, none⟩ = some (.slice (sv j).A (sv j).l.length (sv j).c) ∧ w.cell? ⟨b, o + j * 3 + 2, none⟩ = some (.slice (sv j).B (sv j).b.length (sv j).d)
theorem RD.below {w w' : World} {A : Option Addr} {sv : Nat → DSv} (h : RD w A sv) (hb : Below w.heap.size w w') : RD w' A sv := fun j hj => by
  obtain ⟨b, o, hA, h0, h1, h2⟩ := h j hj
  exact ⟨b, o, hA, (hb.cell (lt_of_cell h0)).trans h0, (hb.cell (lt_of_cell h1)).trans h1, (hb.cell (lt_of_cell h2)).trans h2⟩
def sv5 (x0 x1 x2 x3 x4 : DSv) : Nat → DSv
  | 0 => x0
  | 1 => x1
  | 2 => x2
  | 3 => x3
  | _ => x4
theorem rd_five {w : World} {g : Nat} {t : TypeId} {x0 x1 x2 x3 x4 : DSv} (h : Blk w g t #[.int .i64 x0.N, .slice x0.A x0.l.length x0.c, .slice x0.B x0.b.length x0.d, .int .i64 x1.N, .slice x1.A x1.l.length x1.c, .slice x1.B x1.b.length x1.d, .int .i64 x2.N, .slice x2.A x2.l.length x2.c, .slice x2.B x2.b.length x2.d, .int .i64 x3.N, .slice x3.A x3.l.length x3.c, .slice x3.B x3.b.length x3.d, .int .i64 x4.N, .slice x4.A x4.l.length x4.c, .slice x4.B x4.b.length x4.d]) :
    RD w (some ⟨g, 0, none⟩) (sv5 x0 x1 x2 x3 x4) := fun j hj => by
  refine ⟨g, 0, rfl, ?_⟩
  match j, hj with
  | 0, _ => exact ⟨by rw [h.cell]; rfl, by rw [h.cell]; rfl, by rw [h.cell]; rfl⟩
  | 1, _ => exact ⟨by rw [h.cell]; rfl, by rw [h.cell]; rfl, by rw [h.cell]; rfl⟩
  | 2, _ => exact ⟨by rw [h.cell]; rfl, by rw [h.cell]; rfl, by rw [h.cell]; rfl⟩
  | 3, _ => exact ⟨by rw [h.cell]; rfl, by rw [h.cell]; rfl, by rw [h.cell]; rfl⟩
  | 4, _ => exact ⟨by rw [h.cell]; rfl, by rw [h.cell]; rfl, by rw [h.cell]; rfl⟩
theorem sv5_all {p : Nat} {x0 x1 x2 x3 x4 : DSv} {w : World} (h0 : DSt p x0 w) (h1 : DSt p x1 w) (h2 : DSt p x2 w) (h3 : DSt p x3 w) (h4 : DSt p x4 w) (j : Nat) : DSt p (sv5 x0 x1 x2 x3 x4 j) w := by
  unfold sv5
  split
  · exact h0
  · exact h1
  · exact h2
  · exact h3
  · exact h4
theorem rc_five {w : World} {g : Nat} {t : TypeId} {a0 a1 a2 b0 b1 b2 c0 c1 c2 d0 d1 d2 e0 e1 e2 : Int} (h : Blk w g t #[.int .i64 a0, .int .i64 a1, .int .i64 a2, .int .i64 b0, .int .i64 b1, .int .i64 b2, .int .i64 c0, .int .i64 c1, .int .i64 c2, .int .i64 d0, .int .i64 d1, .int .i64 d2, .int .i64 e0, .int .i64 e1, .int .i64 e2]) :
    RC w (some ⟨g, 0, none⟩) [(a0, a1, a2), (b0, b1, b2), (c0, c1, c2), (d0, d1, d2), (e0, e1, e2)] := fun j hj => by
  refine ⟨g, 0, rfl, ?_⟩
  match j, hj with
  | 0, _ => exact ⟨by rw [h.cell]; rfl, by rw [h.cell]; rfl, by rw [h.cell]; rfl⟩
  | 1, _ => exact ⟨by rw [h.cell]; rfl, by rw [h.cell]; rfl, by rw [h.cell]; rfl⟩
  | 2, _ => exact ⟨by rw [h.cell]; rfl, by rw [h.cell]; rfl, by rw [h.cell]; rfl⟩
  | 3, _ => exact ⟨by rw [h.cell]; rfl, by rw [h.cell]; rfl, by rw [h.cell]; rfl⟩
  | 4, _ => exact ⟨by rw [h.cell]; rfl, by rw [h.cell]; rfl, by rw [h.cell]; rfl⟩
theorem avR_len {N : Int} {l : List (Int × Int)} {lab : List Int} {k f t : Int} (hl : l.length ≤ 100000) : (avR N l lab k f t).1 ≤ 40 ∧ (avR N l lab k f t).2.1.length ≤ 100000 ∧ (avR N l lab k f t).2.2.1.length ≤ 100000 := by
  unfold avR
  cases h : dvB N l lab
  · simp
  · obtain ⟨n, rfl, hv, _⟩ := dvB_vld h hl
    simp only [if_true, Int.toNat_natCast]
    have := ap_vld (k := k) (f := f) (t := t) hv
    refine ⟨this.1.1, this.1.2.1, ?_⟩
    unfold apF
    split
    · rename_i he
      have h1 : (affL (chN n k) (chL n l k f t) (rtL n l k t)).length ≤ chN n k := nodesB_length _ _
      have := chN_le hv.1.1 he
      omega
    · simp
theorem vld_empty : Vld 40 [] := ⟨⟨by omega, by simp, fun p hp => by cases hp⟩, .nil⟩
/-- what lies in memory while the states are made -/
structure ApB (p g n : Nat) (raw : DSv) (ck cf ct : Int) (AG : Option Addr) (l : List (Int × Int)) (cg : Nat) (w wx : World) : Prop where
  k3 : Blk wx w.heap.size 27 #[.int .i64 raw.N, .slice raw.A raw.l.length raw.c, .slice raw.B raw.b.length raw.d]
  k4 : Blk wx (w.heap.size + 1) 29 #[.int .i64 ck, .int .i64 cf, .int .i64 ct]
  k8 : Blk wx g 24 #[.int .i64 (n : Int), .slice AG l.length cg]
  src : SrcOk wx p
  rawD : DSt p raw wx
  gr : RP wx AG l
  ga : ∀ b o, AG = some ⟨b, o, none⟩ → p < b
  bl : Below w.heap.size w wx
  hp : w.heap.size + 1 < p
  hg : p < g
theorem ApB.below {p g n : Nat} {raw : DSv} {ck cf ct : Int} {AG : Option Addr} {l : List (Int × Int)} {cg : Nat} {w wx wy : World} (h : ApB p g n raw ck cf ct AG l cg w wx) (hb : Below wx.heap.size wx wy) : ApB p g n raw ck cf ct AG l cg w wy :=
  ⟨h.k3.below hb h.k3.lt, h.k4.below hb h.k4.lt, h.k8.below hb h.k8.lt, h.src.kept hb, h.rawD.below hb, h.gr.below hb, h.ga, endB h.bl hb, h.hp, h.hg⟩
theorem ApB.grown {p g n : Nat} {raw : DSv} {ck cf ct : Int} {AG : Option Addr} {l : List (Int × Int)} {cg : Nat} {w wx wy : World} (h : ApB p g n raw ck cf ct AG l cg w wx) (hg : wx.grownBy wy (some p)) (hs : SrcOk wy p) : ApB p g n raw ck cf ct AG l cg w wy :=
  ⟨h.k3.grown hg (fun e => by injection e with e; have := h.hp; omega), h.k4.grown hg (fun e => by injection e with e; have := h.hp; omega), h.k8.grown hg (fun e => by injection e with e; have := h.hg; omega), hs, h.rawD.grown hg, h.gr.grownD hg (fun b o e _ => by have := h.ga b o e; omega), h.ga, h.bl.grown hg h.bl.size (fun k hk => by injection hk with hk; have := h.hp; omega), h.hp, h.hg⟩
/-- the box that was laid, if it was -/
def BxO (o : Option Nat) (m : Nat) (w : World) : Prop := ∀ q, o = some q → m ≤ q ∧ Blk w q 27 #[.int .i64 0, .slice none 0 0, .slice none 0 0]
theorem BxO.no {m : Nat} {w : World} : BxO Option.none m w := fun q e => by cases e
theorem BxO.new {m : Nat} {w : World} (h : m ≤ w.heap.size) : BxO (some w.heap.size) m (w.alloc (.cells #[.int .i64 0, .slice none 0 0, .slice none 0 0] 27)) := fun q e => by
  injection e with e; subst e; exact ⟨h, Blk.new _ _ _⟩
theorem BxO.grown {o : Option Nat} {m p : Nat} {w w' : World} (h : BxO o m w) (hg : w.grownBy w' (some p)) (hp : p < m) : BxO o m w' := fun q e =>
  ⟨(h q e).1, (h q e).2.grown hg (fun e' => by injection e' with e'; have := (h q e).1; omega)⟩
theorem grown_set {wr w : World} {p q : Nat} (hg : wr.grownBy w (some p)) (hq : wr.heap.size ≤ q) (i : Nat) (x : Value) : wr.grownBy (w.setCell ⟨q, i, none⟩ x) (some p) :=
  ⟨hg.os, hg.tape, hg.output, by simpa using hg.size, fun j hj hne => (Below.heap_setCell w ⟨q, i, none⟩ x j (by simp; omega)).trans (hg.block j hj hne)⟩
theorem src_set {w : World} {p D : Nat} (h : SrcOk w p) (hp : p < D) (i : Nat) (x : Value) : SrcOk (w.setCell ⟨D, i, none⟩ x) p := h.other (grownBy_setCell w D i x) (fun k hk => by injection hk with hk; omega)
/-- behind the region that makes the odd state -/
structure OddJ (wr : World) (p q n : Nat) (AG : Option Addr) (l : List (Int × Int)) (cg : Nat) (B : Option Addr) (k d : Nat) (w : World) : Prop where
  q0 : wr.heap.size ≤ q
  blk : Blk w q 27 #[.int .i64 (n : Int), .slice AG l.length cg, .slice B k d]
  own : ∃ x, OwnI w wr.heap.size (.slice B k d) x ∧ labB n x = true
  src : SrcOk w p
  grown : wr.grownBy w (some p)
theorem OddJ.of_store {wr w : World} {p q n : Nat} {AG : Option Addr} {l : List (Int × Int)} {cg : Nat} {B : Option Addr} {k d : Nat} (hs : SrcOk w p) (hg : wr.grownBy w (some p)) (hpw : p < wr.heap.size) (hq : wr.heap.size ≤ q) (hk : Blk w q 27 #[.int .i64 0, .slice none 0 0, .slice none 0 0])
    (ho : ∃ x, OwnI w wr.heap.size (.slice B k d) x ∧ labB n x = true) (hne : (Value.slice B k d).ownBlock ≠ some q) :
    OddJ wr p q n AG l cg B k d (((w.setCell ⟨q, 0, none⟩ (.int .i64 (n : Int))).setCell ⟨q, 1, none⟩ (.slice AG l.length cg)).setCell ⟨q, 2, none⟩ (.slice B k d)) := by
  obtain ⟨x, hx, hx2⟩ := ho
  refine ⟨hq, set3 hk _ _ _, ⟨x, ?_, hx2⟩, src_set (src_set (src_set hs (by omega) _ _) (by omega) _ _) (by omega) _ _, grown_set (grown_set (grown_set hg hq _ _) hq _ _) hq _ _⟩
  have e := fun (X : World) (i : Nat) (u : Value) (h : OwnI X wr.heap.size (.slice B k d) x) => World.ownsRow.kept h (grownBy_setCell X q i u) (.inr fun e => hne e)
  exact e _ _ _ (e _ _ _ (e _ _ _ hx))
theorem TxtT.weakJ {P : Program} {ops : Array Oper} {Q : Exit → Act → World → Prop} {S : World → Prop} {es : List Nat} {J2 : World → Prop} : ∀ {n : Nat} {L : List Nat} {J : World → Prop} {a : Act}, (∀ w, J w → J2 w) → TxtT P ops Q S es n L J2 a → TxtT P ops Q S es n L J a
  | 0, L, J, a, hJ, h => ⟨h.1, fun w hS hw => h.2 w hS (hJ w hw)⟩
  | n + 1, L, J, a, hJ, h => by
    rcases h with ⟨i, o, h1, h2, h3, h4, v, h5, h6⟩ | ⟨h1, h2, h3⟩
    · exact .inl ⟨i, o, h1, h2, h3, h4, v, h5, TxtT.weakJ hJ h6⟩
    · refine .inr ⟨h1, h2, fun i hi hr => ?_⟩
      obtain ⟨o, ho, hw, Sh, J', h4, h5⟩ := h3 i hi hr
      exact ⟨o, ho, hw, Sh, J', fun w hS hw => h4 w hS (hJ w hw), h5⟩
theorem RD.grown {w w' : World} {A : Option Addr} {sv : Nat → DSv} {p : Nat} (h : RD w A sv) (hg : w.grownBy w' (some p)) (hp : ∀ b o, A = some ⟨b, o, none⟩ → b ≠ p) : RD w' A sv := fun j hj => by
  obtain ⟨b, o, hA, h0, h1, h2⟩ := h j hj
  have hne := hp b o hA
  have e := fun (i : Nat) (v : Value) (hc : w.cell? ⟨b, i, none⟩ = some v) => show w'.cell? ⟨b, i, none⟩ = some v by
    rw [← hc]; unfold World.cell?; rw [show w'.heap[b]? = w.heap[b]? from hg.block b (lt_of_cell hc) (fun e => by injection e with e; exact hne e)]
  exact ⟨b, o, hA, e _ _ h0, e _ _ h1, e _ _ h2⟩
end Go.Proofs.YtkflanjlnbdkmaaGreatDoor
