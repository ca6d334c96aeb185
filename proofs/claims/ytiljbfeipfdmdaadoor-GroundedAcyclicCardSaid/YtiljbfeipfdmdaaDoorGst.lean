/- What a statement over one graph and a reader knows while it goes on; slices that it tries. -/
import Derived.Test.YtiljbfeipfdmdaaDoorPartW
import Derived.Test.YtiljbfeipfdmdaaDoorGenW
import Derived.Test.YtiljbfeipfdmdaaDoorTxtC
namespace Go.Proofs.YtiljbfeipfdmdaaDoor
open Go.ChangeShapes Go.WideShapes Go.ChangeAt Go.RowKit

theorem RP.grown {w w' : World} {A : Option Addr} {l : List (Int × Int)} {p : Nat} (h : RP w A l) (hg : w.grownBy w' (some p)) (hne : ∀ b o, A = some ⟨b, o, none⟩ → b ≠ p) : RP w' A l := by
  intro k hk
  obtain ⟨b, o, hA, hc, hd⟩ := h k hk
  have := hne b o hA
  exact ⟨b, o, hA, hg.cell hc (by simpa using this), hg.cell hd (by simpa using this)⟩
theorem RI.grown {w w' : World} {A : Option Addr} {l : List Int} {p : Nat} (h : RI w A l) (hg : w.grownBy w' (some p)) (hne : ∀ b o, A = some ⟨b, o, none⟩ → l ≠ [] → b ≠ p) : RI w' A l := by
  intro k hk
  obtain ⟨b, o, hA, hc⟩ := h k hk
  have := hne b o hA (fun e => by subst e; simp at hk)
  exact ⟨b, o, hA, hg.cell hc (by simpa using this)⟩

/-- the graph's box, its pairs, the reader; w is the world in which the statement began -/
structure GSt (w : World) (p G n : Nat) (l : List (Int × Int)) (AL : Option Addr) (cl : Nat) (wr : World) : Prop where
  c0 : wr.cell? ⟨G, 0, none⟩ = some (.int .i64 n)
  c1 : wr.cell? ⟨G, 1, none⟩ = some (.slice AL l.length cl)
  rp : RP wr AL l
  src : SrcOk wr p
  hb : Below w.heap.size w wr
  hp : w.heap.size ≤ p
  hpG : p < G
  hA : ∀ b o, AL = some ⟨b, o, none⟩ → b ≠ p
  hAG : ∀ b o, AL = some ⟨b, o, none⟩ → l ≠ [] → b < G
theorem GSt.grown {w : World} {p G n : Nat} {l : List (Int × Int)} {AL : Option Addr} {cl : Nat} {wr w' : World} (h : GSt w p G n l AL cl wr) (hs : SrcOk w' p) (hg : wr.grownBy w' (some p)) : GSt w p G n l AL cl w' :=
  have := h.hpG
  ⟨hg.cell h.c0 (by simp; omega), hg.cell h.c1 (by simp; omega), h.rp.grown hg h.hA, hs, h.hb.trans (below_of_grownBy hg h.hp h.hb.size), h.hp, h.hpG, h.hA, h.hAG⟩
theorem GSt.below {w : World} {p G n : Nat} {l : List (Int × Int)} {AL : Option Addr} {cl : Nat} {wr w' : World} (h : GSt w p G n l AL cl wr) (hb : Below wr.heap.size wr w') : GSt w p G n l AL cl w' :=
  ⟨(hb.cell (lt_of_cell h.c0)).trans h.c0, (hb.cell (lt_of_cell h.c1)).trans h.c1, h.rp.below hb, h.src.kept hb, h.hb.trans (hb.mono h.hb.size), h.hp, h.hpG, h.hA, h.hAG⟩
theorem GSt.append {w : World} {p G n : Nat} {l : List (Int × Int)} {AL : Option Addr} {cl : Nat} {wr w' : World} {base : Nat} {e : TypeId} {size k : Nat} {v : Value} {xs : List Value} (h : GSt w p G n l AL cl wr)
    (ho : wr.ownsRow base e size v k xs) (hg : wr.grownBy w' v.ownBlock) (hbl : Below base wr w') (hbase : G < base) : GSt w p G n l AL cl w' := by
  have hne : ∀ b, b ≤ G → some b ≠ v.ownBlock := fun b hb he => by have := (ho.lt b he.symm).1; omega
  refine ⟨hg.cell h.c0 (hne _ (Nat.le_refl _)), hg.cell h.c1 (hne _ (Nat.le_refl _)), fun i hi => ?_, h.src.append ho hg (by have := h.hpG; omega), h.hb.trans (hbl.mono (by have := h.hp; have := h.hpG; omega)), h.hp, h.hpG, h.hA, h.hAG⟩
  obtain ⟨b, o, hA, hc, hd⟩ := h.rp i hi
  have := h.hAG b o hA (fun e => by subst e; simp at hi)
  exact ⟨b, o, hA, hg.cell hc (hne _ (by simp; omega)), hg.cell hd (hne _ (by simp; omega))⟩
theorem GSt.start {w w1 w2 W0 : World} {p n : Nat} {l : List (Int × Int)} {AL : Option Addr} {cl : Nat} (hp : w.heap.size ≤ p) (hp1 : p < w1.heap.size) (hb2 : Below w.heap.size w w2) (hs2 : SrcOk w2 p) (hrp : RP w2 AL l) (hloc : ∀ b o, AL = some ⟨b, o, none⟩ → w1.heap.size ≤ b)
    (hb0 : Below w2.heap.size w2 W0) (c0 : W0.cell? ⟨w2.heap.size, 0, none⟩ = some (.int .i64 n)) (c1 : W0.cell? ⟨w2.heap.size, 1, none⟩ = some (.slice AL l.length cl)) : GSt w p w2.heap.size n l AL cl W0 :=
  ⟨c0, c1, hrp.below hb0, hs2.kept hb0, hb2.trans (hb0.mono hb2.size), hp, hs2.lt, fun b o h e => by have := hloc b o h; omega, fun b o h hne => by
    obtain ⟨b', o', hA, hc, _⟩ := hrp 0 (List.length_pos_iff.2 hne)
    rw [h] at hA
    injection hA with hA
    injection hA with hA
    subst hA
    exact lt_of_cell hc⟩

/-- v is a slice of numbers that lies apart from block p -/
def AnyO (p : Nat) (w : World) (v : Value) : Prop := ∃ (A : Option Addr) (x : List Int) (c : Nat), v = .slice A x.length c ∧ RI w A x ∧ x.length ≤ 100000 ∧ (A = none → x = [] ∧ c = 0) ∧ ∀ b o, A = some ⟨b, o, none⟩ → x ≠ [] → b ≠ p
theorem AnyO.grown {p : Nat} {w w' : World} {v : Value} (h : AnyO p w v) (hg : w.grownBy w' (some p)) : AnyO p w' v := by
  obtain ⟨A, x, c, e, hr, hl, hn, hne⟩ := h
  exact ⟨A, x, c, e, hr.grown hg hne, hl, hn, hne⟩
theorem AnyO.below {p : Nat} {w w' : World} {v : Value} (h : AnyO p w v) (hb : Below w.heap.size w w') : AnyO p w' v := by
  obtain ⟨A, x, c, e, hr, hl, hn, hne⟩ := h
  exact ⟨A, x, c, e, hr.below hb, hl, hn, hne⟩
theorem AnyO.nil (p : Nat) (w : World) : AnyO p w (.slice none 0 0) := ⟨none, [], 0, rfl, RI.nil _ _, by simp, fun _ => ⟨rfl, rfl⟩, fun _ _ h => by cases h⟩
theorem AnyO.own {p b : Nat} {w : World} {v : Value} {x : List Int} (h : OwnI w b v x) (hl : x.length ≤ 100000) (hp : p < b) : AnyO p w v := by
  have h' := h
  obtain ⟨h1, h2⟩ := h
  rcases h2 with ⟨rfl, hn⟩ | ⟨g, cap, cur, rfl, hg, _⟩
  · exact AnyO.nil _ _
  · exact ⟨_, x, cap, rfl, h'.ri, hl, (fun e => by cases e), fun b' o' e _ => by injection e with e; injection e with e1; omega⟩
theorem AnyO.shape {p : Nat} {w : World} {v : Value} (h : AnyO p w v) : ∃ A k c, v = .slice A k c := by
  obtain ⟨A, x, c, rfl, _⟩ := h
  exact ⟨A, _, c, rfl⟩
theorem RetPa.any {p n : Nat} {w : World} {e : Ending} {w' : World} (h : RetPa p n w e w') (hn : n ≤ 40) (hp : p < w.heap.size) : ∃ v, e = .returned v ∧ AnyO p w' v ∧ SrcOk w' p ∧ w.grownBy w' (some p) := by
  obtain ⟨f, v, rfl, ho, hs, hg⟩ := h
  exact ⟨v, rfl, AnyO.own ho (by have := nodesB_length n f; omega) hp, hs, hg⟩
end Go.Proofs.YtiljbfeipfdmdaaDoor
