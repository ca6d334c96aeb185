/- ref10.Reverse. -/
import Derived.Test.YtkflanjlnbdkmaaGreatDoorRev
import Derived.Test.YtkflanjlnbdkmaaGreatDoorRef10
namespace Go.Proofs.YtkflanjlnbdkmaaGreatDoor
open Go.ChangeShapes Go.WideShapes Go.ChangeAt Go.RowKit

theorem OwnI.farC' {w : World} {B : Nat} {v : Value} {l : List Int} (h : OwnI w B v l) {a : Addr} (ha : a.block < B) (u : Value) : OwnI (w.setCell a u) B v l :=
  ownsRow_setCell_below h ha u
/-- the pairs of the reverse, row by row -/
def rvL (l : List (Int × Int)) : Nat → List (Int × Int)
  | 0 => []
  | k + 1 => rvL l k ++ (attackersL l (k : Int)).map fun x => ((k : Int), x)
theorem mem_rvL {l : List (Int × Int)} {a b : Int} : ∀ {k : Nat}, (a, b) ∈ rvL l k ↔ 0 ≤ a ∧ a < k ∧ (b, a) ∈ l
  | 0 => by simp [rvL]; omega
  | k + 1 => by
    unfold rvL
    rw [List.mem_append, mem_rvL, List.mem_map]
    constructor
    · rintro (⟨h1, h2, h3⟩ | ⟨x, hx, e⟩)
      · exact ⟨h1, by omega, h3⟩
      · injection e with e1 e2
        subst e2
        rw [← e1]
        exact ⟨by omega, by omega, mem_attackersL.1 hx⟩
    · rintro ⟨h1, h2, h3⟩
      by_cases e : a = k
      · subst e
        exact .inr ⟨b, mem_attackersL.2 h3, rfl⟩
      · exact .inl ⟨h1, by omega, h3⟩
theorem rvL_sorted {n : Nat} {l : List (Int × Int)} (hv : Vld n l) : ∀ k, (rvL l k).Pairwise ltP
  | 0 => .nil
  | k + 1 => by
    unfold rvL
    rw [List.pairwise_append]
    refine ⟨rvL_sorted hv k, ?_, fun p hp q hq => ?_⟩
    · rw [List.pairwise_map]
      refine (attackersL_sorted hv.2 (k : Int)).imp fun {a b} h => ?_
      unfold ltP; omega
    · obtain ⟨a, b⟩ := p
      obtain ⟨x, _, rfl⟩ := List.mem_map.1 hq
      have := mem_rvL.1 hp
      unfold ltP; dsimp only; omega
theorem rvL_rev {n : Nat} {l : List (Int × Int)} (hv : Vld n l) : rvL l n = revL l :=
  sortedP_ext _ _ (rvL_sorted hv n) (revL_vld hv).2 fun p => by
    obtain ⟨a, b⟩ := p
    rw [mem_rvL, mem_revL]
    constructor
    · exact fun h => h.2.2
    · intro h
      have := hv.1.2.2 _ h
      dsimp only at this
      exact ⟨by omega, by omega, h⟩
theorem rvL_len {n : Nat} {l : List (Int × Int)} (hv : Vld n l) {k : Nat} (hk : k ≤ n) : (rvL l k).length ≤ 100000 := by
  have : ∀ d, (rvL l k).length ≤ (rvL l (k + d)).length := by
    intro d
    induction d with
    | zero => exact Nat.le_refl _
    | succ d ih =>
      refine Nat.le_trans ih ?_
      rw [show rvL l (k + (d + 1)) = rvL l (k + d) ++ (attackersL l ((k + d : Nat) : Int)).map fun x => (((k + d : Nat) : Int), x) from rfl, List.length_append]
      omega
  have h := this (n - k)
  rw [show k + (n - k) = n by omega, rvL_rev hv, revL_length] at h
  have := hv.1.2.1
  omega

theorem OwnI.apartP {w : World} {b b' : Nat} {v v' : Value} {l : List Int} {L : List (Int × Int)} (h : OwnI w b v l) (k : OwnP w b' v' L) : v.ownBlock = none ∨ v.ownBlock ≠ v'.ownBlock := by
  obtain ⟨_, h2⟩ := h
  obtain ⟨_, k2⟩ := k
  rcases h2 with ⟨rfl, _⟩ | ⟨g, cap, cur, rfl, _, hg, _⟩
  · exact .inl rfl
  · rcases k2 with ⟨rfl, _⟩ | ⟨g', cap', cur', rfl, _, hg', _⟩
    · exact .inr (by simp [Value.ownBlock])
    · refine .inr fun e => ?_
      simp only [Value.ownBlock, Option.some.injEq] at e
      subst e
      rw [hg] at hg'
      simp only [Option.some.injEq, Obj.cells.injEq] at hg'
      exact absurd hg'.2.1 (by decide)
/-- the memory of the reversal -/
structure RvS (w : World) (n : Nat) (l : List (Int × Int)) (A : Option Addr) (c G B : Nat) (L : List (Int × Int)) (v : Value) (wr : World) : Prop where
  own : OwnP wr B v L
  kg : Blk wr G 24 #[.int .i64 (n : Int), v]
  kb : Blk wr w.heap.size 24 #[.int .i64 (n : Int), .slice A l.length c]
  kr : Blk wr (w.heap.size + 1) 24 #[.int .i64 0, .slice none 0 0]
  hB : B ≤ wr.heap.size
  bel : Below w.heap.size w wr
  rp : RP wr A l
section
variable {w : World} {n : Nat} {l : List (Int × Int)} {A : Option Addr} {c G B : Nat} {L : List (Int × Int)} {v : Value} {wr : World}
theorem RvS.below (h : RvS w n l A c G B L v wr) {w' : World} (hb : Below wr.heap.size wr w') : RvS w n l A c G B L v w' :=
  ⟨ownsRow_below h.own hb, h.kg.below hb h.kg.lt, h.kb.below hb h.kb.lt, h.kr.below hb h.kr.lt, Nat.le_trans h.hB hb.size, endB h.bel hb, h.rp.below hb⟩
theorem RvS.push (h : RvS w n l A c G B L v wr) (hG : w.heap.size + 1 < G) (hGB : G < B) (hlt : ∀ b o, A = some ⟨b, o, none⟩ → 0 < l.length → b < w.heap.size) {w' : World} {v' : Value} {L' : List (Int × Int)} (ho : OwnP w' B v' L') (hb : Below B wr w') (hg : wr.grownBy w' v.ownBlock) : RvS w n l A c G B L' v' (w'.setCell ⟨G, 1, none⟩ v') :=
  { own := ownsRow_setCell_below ho (a := ⟨G, 1, none⟩) hGB _
    kg := (h.kg.append h.own hg hGB).set_ 1 v'
    kb := (h.kb.append h.own hg (by omega)).far (p := ⟨G, 1, none⟩) (by show w.heap.size ≠ G; omega) _
    kr := (h.kr.append h.own hg (by omega)).far (p := ⟨G, 1, none⟩) (by show w.heap.size + 1 ≠ G; omega) _
    hB := by simp [World.setCell]; exact Nat.le_trans h.hB hb.size
    bel := (h.bel.trans (hb.mono (by omega))).setCell (p := ⟨G, 1, none⟩) (by show w.heap.size ≤ G; omega) _
    rp := fun j hj => by
      obtain ⟨b', o', hA, hc', hd'⟩ := h.rp j hj
      have hlt' := hlt b' o' hA (by omega)
      have hne : ∀ q, (⟨b', q, none⟩ : Addr).block < B := fun q => by show b' < B; omega
      exact ⟨b', o', hA, by rw [World.cell?_setCell_other _ _ _ _ (fun e => by injection e; omega), hb.cell (hne _)]; exact hc', by rw [World.cell?_setCell_other _ _ _ _ (fun e => by injection e; omega), hb.cell (hne _)]; exact hd'⟩ }
end

end Go.Proofs.YtkflanjlnbdkmaaGreatDoor
