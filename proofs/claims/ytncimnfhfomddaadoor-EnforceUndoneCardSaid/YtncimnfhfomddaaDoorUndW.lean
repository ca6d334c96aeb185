import Derived.Test.YtncimnfhfomddaaDoorPaW
import Derived.Test.YtncimnfhfomddaaDoorLov
import Derived.Maps.AppendAt
/- law21: the walk of EnforceUndone. -/
namespace Go.Proofs.YtncimnfhfomddaaDoor
open Go.ChangeShapes Go.WideShapes Go.ChangeAt Go.RowKit

set_option maxRecDepth 100000 in
/-- 'append(s, t...)' of pairs, in a region that draws its order; where the result lies -/
theorem eff_appPa {o : Oper} {a : Act} (s x : Operand)
    (ho : o.op = .call { callee := .builtin .append, args := #[s, x], argTypes := #[22, 22] })
    (X : World) (base : Nat) (v : Value) (l : List (Int × Int)) (B : Option Addr) (l2 : List (Int × Int)) (n2 c : Nat) (hown : OwnP X base v l) (hr : RP X B l2) (hn2 : n2 = l2.length) (hB : B = none → l2 = [] ∧ c = 0) (hs : a.eval s = v) (hx : a.eval x = .slice B n2 c)
    (hlen : l.length + l2.length ≤ 1000000) (hbase : base ≤ X.heap.size) {Post : Value → World → Prop}
    (h : ∀ v' w', OwnP w' base v' (l ++ l2) → Below base X w' → X.grownBy w' v.ownBlock → (v'.ownBlock = v.ownBlock ∨ v'.ownBlock = some X.heap.size) → Post v' w') : Eff Tryd.prog o a X Post := by
  subst hn2
  obtain ⟨i0, hi, hz0, hz1, hz2⟩ := info_parts info_pairR
  unfold Eff
  cases B with
  | none =>
    obtain ⟨rfl, rfl⟩ := hB rfl
    have hrun := run_append_owned_none (P := Tryd.prog) (w := X) base 22 o.type 42 i0 2 Tryd.underlying22 hi v l.length _ hown
    have hp := h v X (by rw [List.append_nil]; exact hown) (Below.refl _ _) (grownBy_refl _ _) (.inl rfl)
    unfold Oper.wp
    simp [execOp, ho, resolve, invoke, builtin, hs, hx, hrun, Result.andThen]
    exact ⟨v, rfl, hp⟩
  | some ad =>
    obtain ⟨v', w1, hrun, hown', hgrow, _, hat⟩ := run_append_own_at (P := Tryd.prog) X base 22 o.type 42 i0 (.agg #[.int .i64 0, .int .i64 0]) 2 16 Tryd.underlying22 hi hz0 hz1 hz2 rfl (by decide) v l.length _ hown ad l2.length c (flatP l2) (by rw [flatP_length]) (fun j u hu => by
      have hj : j < l2.length * 2 := by have := (List.getElem?_eq_some_iff.1 hu).1; rw [flatP_length] at this; exact this
      obtain ⟨f0, f1⟩ := flatP_at l2 (j / 2) (by omega)
      obtain ⟨b, off, hA, hc, hd⟩ := hr (j / 2) (by omega)
      injection hA with hA; subst hA
      rw [show (⟨b, off, none⟩ : Addr).add j = ⟨b, off + j, none⟩ by unfold Addr.add; split <;> simp_all]
      rcases Nat.mod_two_eq_zero_or_one j with e | e
      · have ej : j / 2 * 2 = j := by omega
        rw [ej] at f0 hc
        rw [f0] at hu; injection hu with hu; rw [hc, hu]
      · have ej : j / 2 * 2 + 1 = j := by omega
        have ej2 : off + j / 2 * 2 + 1 = off + j := by omega
        rw [ej] at f1
        rw [ej2] at hd
        rw [f1] at hu; injection hu with hu; rw [hd, hu])
      (by intro u hu; unfold flatP at hu; obtain ⟨q, _, hq⟩ := List.mem_flatMap.1 hu; simp at hq; rcases hq with rfl | rfl <;> rfl) (by unfold maxLen; omega) (by omega) hbase
    have hp := h v' w1 (by
      unfold OwnP
      have e : flatP (l ++ l2) = flatP l ++ flatP l2 := by unfold flatP; rw [List.flatMap_append]
      rw [List.length_append, e]; exact hown') ((Below.refl base X).grown hgrow hbase (fun k hk => (hown.lt k hk).1)) hgrow hat
    unfold Oper.wp
    simp [execOp, ho, resolve, invoke, builtin, hs, hx, hrun, Result.andThen]
    exact ⟨v', rfl, hp⟩
/-- the two lists, under way: u1 the list, g2 and g5 the new pair (twice), u2 the new list backwards, A2 the old one -/
structure UJ (B q8 : Nat) (x : Int × Int) (K : List (Int × Int)) (A2 : Option Addr) (u1 : Value) (l1 : List (Int × Int)) (g2 g5 : Option Nat) (u2 : Option Value) (w : World) : Prop where
  sz : B ≤ w.heap.size
  o1 : OwnP w B u1 l1
  p2 : ∀ g, g2 = some g → OwnP w B (.slice (some ⟨g, 0, none⟩) 1 1) [x] ∧ u1.ownBlock ≠ some g
  p5 : ∀ g, g5 = some g → OwnP w B (.slice (some ⟨g, 0, none⟩) 1 1) [x] ∧ u1.ownBlock ≠ some g
  u : ∀ v, u2 = some v → OwnP w B v ([x] ++ K) ∧ (∀ k, v.ownBlock = some k → u1.ownBlock ≠ some k ∧ g2 ≠ some k)
  k : RP w A2 K ∧ ∀ b o, A2 = some ⟨b, o, none⟩ → 0 < K.length → b < w.heap.size ∧ u1.ownBlock ≠ some b
  q : ∀ g, g2 = some g → g5 ≠ some g
  ql : q8 < w.heap.size
  uq : u1.ownBlock ≠ some q8
  k5 : ∀ g, g5 = some g → g ≠ q8 ∧ ∀ b o, A2 = some ⟨b, o, none⟩ → 0 < K.length → b ≠ g
section
variable {B q8 : Nat} {x : Int × Int} {K : List (Int × Int)} {A2 : Option Addr} {u1 : Value} {l1 : List (Int × Int)} {g2 g5 : Option Nat} {u2 : Option Value} {w : World}
theorem own_ne_size {w : World} {base size n : Nat} {e : TypeId} {v : Value} {xs : List Value} (h : w.ownsRow base e size v n xs) : v.ownBlock ≠ some w.heap.size := fun e => by
  have := (World.ownsRow.lt h _ e).2; omega
theorem UJ.alloc2 (h : UJ B q8 x K A2 u1 l1 none g5 u2 w) : UJ B q8 x K A2 u1 l1 (some w.heap.size) g5 u2 (w.alloc (.cells #[.int .i64 x.1, .int .i64 x.2] 42)) := by
  have hb := newB w (.cells #[.int .i64 x.1, .int .i64 x.2] 42)
  exact {
    sz := Nat.le_trans h.sz hb.size
    o1 := ownsRow_below h.o1 hb
    p2 := fun g e => by injection e with e; subst e; exact ⟨own_onePr w x B h.sz, own_ne_size h.o1⟩
    p5 := fun g e => ⟨ownsRow_below (h.p5 g e).1 hb, (h.p5 g e).2⟩
    u := fun v e => ⟨ownsRow_below (h.u v e).1 hb, fun k hk => ⟨((h.u v e).2 k hk).1, fun e2 => by injection e2 with e2; subst e2; exact own_ne_size (h.u v e).1 hk⟩⟩
    k := ⟨h.k.1.below hb, fun b o e hl => ⟨Nat.lt_of_lt_of_le (h.k.2 b o e hl).1 hb.size, (h.k.2 b o e hl).2⟩⟩
    q := fun g e e5 => by
      injection e with e; subst e
      exact Nat.lt_irrefl _ (World.ownsRow.lt (h.p5 _ e5).1 _ rfl).2
    ql := Nat.lt_of_lt_of_le h.ql hb.size
    uq := h.uq
    k5 := h.k5 }
theorem UJ.alloc5 (h : UJ B q8 x K A2 u1 l1 g2 none u2 w) : UJ B q8 x K A2 u1 l1 g2 (some w.heap.size) u2 (w.alloc (.cells #[.int .i64 x.1, .int .i64 x.2] 42)) := by
  have hb := newB w (.cells #[.int .i64 x.1, .int .i64 x.2] 42)
  exact {
    sz := Nat.le_trans h.sz hb.size
    o1 := ownsRow_below h.o1 hb
    p5 := fun g e => by injection e with e; subst e; exact ⟨own_onePr w x B h.sz, own_ne_size h.o1⟩
    p2 := fun g e => ⟨ownsRow_below (h.p2 g e).1 hb, (h.p2 g e).2⟩
    u := fun v e => ⟨ownsRow_below (h.u v e).1 hb, (h.u v e).2⟩
    k := ⟨h.k.1.below hb, fun b o e hl => ⟨Nat.lt_of_lt_of_le (h.k.2 b o e hl).1 hb.size, (h.k.2 b o e hl).2⟩⟩
    q := fun g e e5 => by
      injection e5 with e5; subst e5
      exact Nat.lt_irrefl _ (World.ownsRow.lt (h.p2 _ e).1 _ rfl).2
    ql := Nat.lt_of_lt_of_le h.ql hb.size
    uq := h.uq
    k5 := fun g e => by
      injection e with e; subst e
      exact ⟨fun e => Nat.lt_irrefl q8 (by have := h.ql; omega), fun b o e1 hl e2 => by have := (h.k.2 b o e1 hl).1; omega⟩ }
theorem UJ.app3 {w' : World} {v' : Value} (h : UJ B q8 x K A2 u1 l1 g2 g5 u2 w) (ho : OwnP w' B v' (l1 ++ [x])) (hg : w.grownBy w' u1.ownBlock) (hat : v'.ownBlock = u1.ownBlock ∨ v'.ownBlock = some w.heap.size) : UJ B q8 x K A2 v' (l1 ++ [x]) g2 g5 u2 w' := by
  have hne : ∀ {g : Nat}, u1.ownBlock ≠ some g → g < w.heap.size → v'.ownBlock ≠ some g := fun {g} h1 h2 e => by
    rcases hat with h3 | h3
    · exact h1 (h3 ▸ e)
    · rw [h3] at e; injection e with e; omega
  exact {
    sz := Nat.le_trans h.sz hg.size
    o1 := ho
    p2 := fun g e => ⟨World.ownsRow.kept (h.p2 g e).1 hg (.inr (fun e' => (h.p2 g e).2 e'.symm)), hne (h.p2 g e).2 (World.ownsRow.lt (h.p2 g e).1 _ rfl).2⟩
    p5 := fun g e => ⟨World.ownsRow.kept (h.p5 g e).1 hg (.inr (fun e' => (h.p5 g e).2 e'.symm)), hne (h.p5 g e).2 (World.ownsRow.lt (h.p5 g e).1 _ rfl).2⟩
    u := fun v e => by
      have hlt := World.ownsRow.lt (h.u v e).1
      have hap : v.ownBlock = none ∨ v.ownBlock ≠ u1.ownBlock := by
        cases hv : v.ownBlock with
        | none => exact .inl rfl
        | some k => exact .inr fun e' => ((h.u v e).2 k hv).1 e'.symm
      refine ⟨?_, fun k hk => ⟨hne ((h.u v e).2 k hk).1 (hlt k hk).2, ((h.u v e).2 k hk).2⟩⟩
      exact World.ownsRow.kept (h.u v e).1 hg hap
    k := by
      refine ⟨fun j hj => ?_, fun b o e hl => ⟨Nat.lt_of_lt_of_le (h.k.2 b o e hl).1 hg.size, hne (h.k.2 b o e hl).2 (h.k.2 b o e hl).1⟩⟩
      obtain ⟨b, o, e, h1, h2⟩ := h.k.1 j hj
      have hb := h.k.2 b o e (by omega)
      have hblk := hg.block b hb.1 (fun e' => hb.2 e'.symm)
      exact ⟨b, o, e, (World.cell?_of_block (a := ⟨b, o + j * 2, none⟩) hblk).trans h1, (World.cell?_of_block (a := ⟨b, o + j * 2 + 1, none⟩) hblk).trans h2⟩
    q := h.q
    ql := Nat.lt_of_lt_of_le h.ql hg.size
    uq := hne h.uq h.ql
    k5 := h.k5 }
theorem UJ.app7 {w' : World} {v' : Value} {g : Nat} (h : UJ B q8 x K A2 u1 l1 g2 (some g) none w) (ho : OwnP w' B v' ([x] ++ K)) (hg : w.grownBy w' (some g)) (hat : v'.ownBlock = some g ∨ v'.ownBlock = some w.heap.size) : UJ B q8 x K A2 u1 l1 g2 none (some v') w' := by
  have hgl := (World.ownsRow.lt (h.p5 g rfl).1 _ rfl).2
  exact {
    sz := Nat.le_trans h.sz hg.size
    o1 := World.ownsRow.kept h.o1 hg (.inr (h.p5 g rfl).2)
    p2 := fun g' e => ⟨World.ownsRow.kept (h.p2 g' e).1 hg (.inr (fun e' => h.q g' e (by simpa [Value.ownBlock] using e'.symm))), (h.p2 g' e).2⟩
    p5 := fun g' e => by cases e
    u := fun v e => by
      injection e with e; subst e
      refine ⟨ho, fun k hk => ?_⟩
      rcases hat with h3 | h3
      · rw [h3] at hk; injection hk with hk; subst hk
        exact ⟨(h.p5 g rfl).2, fun e2 => h.q g e2 rfl⟩
      · rw [h3] at hk; injection hk with hk; subst hk
        exact ⟨own_ne_size h.o1, fun e2 => Nat.lt_irrefl _ (World.ownsRow.lt (h.p2 _ e2).1 _ rfl).2⟩
    k := by
      refine ⟨fun j hj => ?_, fun b o e hl => ⟨Nat.lt_of_lt_of_le (h.k.2 b o e hl).1 hg.size, (h.k.2 b o e hl).2⟩⟩
      obtain ⟨b, o, e, h1, h2⟩ := h.k.1 j hj
      have hb := h.k.2 b o e (by omega)
      have hblk := hg.block b hb.1 (fun e' => (h.k5 g rfl).2 b o e (by omega) (by injection e'))
      exact ⟨b, o, e, (World.cell?_of_block (a := ⟨b, o + j * 2, none⟩) hblk).trans h1, (World.cell?_of_block (a := ⟨b, o + j * 2 + 1, none⟩) hblk).trans h2⟩
    q := fun g e => by simp
    ql := Nat.lt_of_lt_of_le h.ql hg.size
    uq := h.uq
    k5 := fun g e => by cases e }
theorem UJ.drew (h : UJ B q8 x K A2 u1 l1 g2 g5 u2 w) : UJ B q8 x K A2 u1 l1 g2 g5 u2 w.drew := ⟨h.sz, h.o1, h.p2, h.p5, h.u, h.k, h.q, h.ql, h.uq, h.k5⟩
end
theorem UJ.fin {B q8 : Nat} {x : Int × Int} {K D : List (Int × Int)} {A2 A3 A7 : Option Addr} {n3 c3 n7 c7 : Nat} {g2 : Option Nat} {w : World} (h : UJ B q8 x K A2 (.slice A3 n3 c3) (D ++ [x]) g2 none (some (.slice A7 n7 c7)) w) :
    n3 = (D ++ [x]).length ∧ n7 = ([x] ++ K).length ∧ OwnP w B (.slice A3 n3 c3) (D ++ [x]) ∧ RP w A7 ([x] ++ K) ∧ (A7 = none → [x] ++ K = [] ∧ c7 = 0) ∧ (∀ b o, A7 = some ⟨b, o, none⟩ → 0 < ([x] ++ K).length → b < w.heap.size ∧ (Value.slice A3 n3 c3).ownBlock ≠ some b) := by
  obtain ⟨A', c', e1, _⟩ := h.o1.form
  obtain ⟨A'', c'', e2, _⟩ := (h.u _ rfl).1.form
  injection e1 with _ e1 _
  injection e2 with _ e2 _
  refine ⟨e1, e2, h.o1, OwnP.rpr (h.u _ rfl).1, (OwnP.fit (h.u _ rfl).1).1, fun b o e hl => ?_⟩
  subst e
  exact ⟨(World.ownsRow.lt (h.u _ rfl).1 b rfl).2, ((h.u _ rfl).2 b rfl).1⟩
/-- the box of the pair stands, and what lies below B -/
def SU (B q8 : Nat) (x : Int × Int) (wo w : World) : Prop := Below B wo w ∧ w.cell? ⟨q8, 0, none⟩ = some (.int .i64 x.1) ∧ w.cell? ⟨q8, 1, none⟩ = some (.int .i64 x.2)
theorem SU.step {B q8 : Nat} {x : Int × Int} {wo w w' : World} (h : SU B q8 x wo w) (hb : Below w.heap.size w w') (hq : q8 < w.heap.size) (hB : B ≤ w.heap.size := by omega) : SU B q8 x wo w' :=
  ⟨h.1.trans (hb.mono hB), (hb.cell (p := ⟨q8, 0, none⟩) hq).trans h.2.1, (hb.cell (p := ⟨q8, 1, none⟩) hq).trans h.2.2⟩
theorem SU.stepG {B q8 : Nat} {x : Int × Int} {wo w w' : World} {row : Option Nat} (h : SU B q8 x wo w) (hg : w.grownBy w' row) (hB : B ≤ w.heap.size) (hr : ∀ k, row = some k → B ≤ k) (hq : q8 < w.heap.size) (hne : row ≠ some q8) : SU B q8 x wo w' := by
  have hblk := hg.block q8 hq (fun e => hne e.symm)
  exact ⟨⟨hg.os.trans h.1.os, hg.tape.trans h.1.tape, hg.output.trans h.1.output, Nat.le_trans h.1.size hg.size, fun k hk => (hg.block k (Nat.lt_of_lt_of_le hk hB) (fun e => by have := hr k e.symm; omega)).trans (h.1.block k hk)⟩,
    (World.cell?_of_block (a := ⟨q8, 0, none⟩) hblk).trans h.2.1, (World.cell?_of_block (a := ⟨q8, 1, none⟩) hblk).trans h.2.2⟩
set_option maxRecDepth 100000 in
set_option maxHeartbeats 16000000 in
theorem und_law_any (A : Option Addr) (arg : List Int) (c : Nat) (w : World)
    (hlc : arg.length ≤ c) (hc : c ≤ 9223372036854775807) (hr : RI w A arg) (hx : ∀ x ∈ arg, -9223372036854775808 ≤ x ∧ x ≤ 9223372036854775807) (hT : Tab w) :
    Calls Tryd.prog 4 #[.slice A arg.length c] w (RetB (.bool true) w) := by
  go_enter Tryd.func4, Tryd.ntmps4
  go_wp2_with fail
  refine (new_any A arg c w hlc hc hr hx).mono ?_
  rintro e w1 ⟨p, rfl, hp, hs1, hb1⟩
  clear hr hx
  go_wp2_with fail
  refine (netGraph_any p 8 w1 hs1 (by omega) (by omega)).mono ?_
  rintro e w2 ⟨n, l, AL, cl, rfl, hN1, hN, hv, hrp, hloc, hs2, hg2, hAn⟩
  have hb2 : Below w.heap.size w w2 := hb1.trans (below_of_grownBy hg2 hp hb1.size)
  have hpl2 := hs2.lt
  have hll := len_of_vld hv
  have hpl1 := hs1.lt
  have Hloc := Lib.hid hloc
  have HV := Lib.hid hv
  clear hs1 hb1 hg2 hv hloc hAn
  go_upto_region 3 with fail
  obtain ⟨W0, hW, k0, hb0, hs0⟩ := boxG w2 (n : Int) AL l.length cl
  rw [hW]
  obtain ⟨z0, z1, -, -⟩ := k0.two
  have hrp0 := hrp.below hb0
  have hB0 := endB hb2 hb0
  have hs3 := hs2.kept hb0
  clear hW hrp hs2 hb2 hs0 hb0
  generalize w2.heap.size = G at *
  go_wp2_with fail
  refine (pairs_any p n W0 hs3 hN1 (by omega)).mono ?_
  rintro e w4 ⟨P, AP, cP, rfl, hPl, hPok, hPo, hs4, hg4⟩
  have hB4 : Below w.heap.size w w4 := hB0.trans (below_of_grownBy hg4 hp hB0.size)
  have k04 := k0.grown hg4 (by simp; omega)
  have hrp4 := hrp0.grown hg4 (fun b o e hl => by have := Hloc.out b o e; omega)
  have HP := Lib.hid hPo.rpr; have Hok := Lib.hid hPok
  have Hrp4 := Lib.hid hrp4
  have hGB : G < w4.heap.size := k04.lt
  clear z0 z1 k0 hrp0 hB0 hs3 hPo hPok hg4 hs4 hrp4 hp hpl1 hpl2
  go_wp2_with fail
  go_loopw [5, 6, 24] (fun v u i wr => ∃ (k : Nat) (D K : List (Int × Int)) (AV : Option Addr) (nD cV : Nat) (AK : Option Addr) (nK cK : Nat), k ≤ P.length ∧ i = .int .i64 (k : Int) ∧ v = .slice AV nD cV ∧ u = .slice AK nK cK ∧ nD = D.length ∧ nK = K.length ∧ D.Nodup ∧ (∀ q ∈ D, okP n q) ∧ K = D.reverse ∧ D.length ≤ k ∧ OwnP wr w4.heap.size (.slice AV nD cV) D ∧ RP wr AK K ∧ (AK = none → K = [] ∧ cK = 0) ∧ (∀ b o, AK = some ⟨b, o, none⟩ → 0 < K.length → b < wr.heap.size ∧ (Value.slice AV nD cV).ownBlock ≠ some b) ∧ Below w4.heap.size w4 wr) (fun _ _ i _ => P.length - (intOf i).toNat)
  case atStart => exact ⟨0, [], [], none, 0, 0, none, 0, 0, Nat.zero_le _, rfl, rfl, rfl, rfl, rfl, List.nodup_nil, (fun q hq => by cases hq), rfl, Nat.le_refl _, OwnP.nil _ _, RP.nil _ _, (fun _ => ⟨rfl, rfl⟩), (fun b o e hl => by cases e), Below.refl _ _⟩
  case round =>
    obtain ⟨k, D, K, AV, nD, cV, AK, nK, cK, hk, rfl, rfl, rfl, hnD, hnK, hDn, hDo, hKD, hDk, hown, hrk, hKn, hKa, hbw⟩ := hrel
    have k0r := k04.below hbw hGB
    have HnD := Lib.hid hnD; have HKn' := Lib.hid hnK; have HDn := Lib.hid hDn; have HDo := Lib.hid hDo; have HKD := Lib.hid hKD; have Hown := Lib.hid hown; have Hrk := Lib.hid hrk; have HKn := Lib.hid hKn; have HKa := Lib.hid hKa
    have hD4 : D.length ≤ 4 := by omega
    have hn4 : nD ≤ 4 := by omega
    have hK4 : K.length ≤ 4 := by rw [hKD, List.length_reverse]; exact hD4
    clear hnD hnK hDn hDo hKD hown hrk hKn hKa
    by_cases hlt : k < P.length
    case pos =>
      obtain ⟨b, o, rfl, e0', e1'⟩ := (HP.out.below hbw).at_ hlt
      have hxo := Hok.out _ (List.getElem_mem hlt)
      obtain ⟨x, hxx⟩ : ∃ x, P[k] = x := ⟨_, rfl⟩
      rw [hxx] at e0' e1' hxo
      obtain ⟨W5, hW5, e0, e1, hb5, hlt5⟩ := boxed wr 42 (.int .i64 x.1) (.int .i64 x.2)
      have hhas := rHas_any AV D cV x.1 x.2 W5 (OwnP.rpr (ownsRow_below Hown.out hb5 : OwnP W5 w4.heap.size (.slice AV nD cV) D)) (by omega)
      rw [← HnD.out] at hhas
      have Hhas := Lib.hid hhas; have Hxo := Lib.hid hxo
      clear hhas hxx hxo
      go_wp2_with fail
      refine Hhas.out.mono ?_
      rintro e w6 ⟨rfl, hb6⟩
      have hb56 := hb5.trans (hb6.mono hb5.size)
      have hbw6 := hbw.trans (hb56.mono hbw.size)
      have f0 := (hb6.cell (lt_of_cell e0)).trans e0
      have f1 := (hb6.cell (lt_of_cell e1)).trans e1
      have ho6 : OwnP w6 w4.heap.size (.slice AV nD cV) D := ownsRow_below Hown.out hb56
      have hr6 := Hrk.out.below hb56
      have Ho6 := Lib.hid ho6; have Hr6 := Lib.hid hr6
      have hsz6 := hb6.size
      cases hhb : hasB D x.1 x.2
      case true =>
        clear hhb ho6 hr6
        go_wp2_with fail
        go_roundw
        case rel => exact ⟨k + 1, D, K, AV, nD, cV, AK, nK, cK, hlt, by go_num, rfl, rfl, HnD.out, HKn'.out, HDn.out, HDo.out, HKD.out, by omega, Ho6.out, Hr6.out, HKn.out, (fun b o e hl => ⟨Nat.lt_of_lt_of_le (HKa.out b o e hl).1 hb56.size, (HKa.out b o e hl).2⟩), hbw6⟩
        case measure => simp [intOf]; omega
      case false =>
        have hnin := hasB_false.1 hhb
        have hV8 : (Value.slice AV nD cV).ownBlock ≠ some wr.heap.size := own_ne_size Hown.out
        have huj : UJ w4.heap.size wr.heap.size x K AK (.slice AV nD cV) D none none none w6 := {
          sz := hbw6.size
          o1 := ho6
          p2 := fun g e => by cases e
          p5 := fun g e => by cases e
          u := fun v e => by cases e
          k := ⟨hr6, fun b o e hl => ⟨Nat.lt_of_lt_of_le (HKa.out b o e hl).1 hb56.size, (HKa.out b o e hl).2⟩⟩
          q := fun g e => by cases e
          ql := Nat.lt_of_lt_of_le hlt5 hsz6
          uq := hV8
          k5 := fun g e => by cases e }
        have HUJ := Lib.hid huj.drew
        have Hnin := Lib.hid hnin
        have hdo' : ∀ q ∈ D ++ [x], okP n q := fun q hq => by
          rcases List.mem_append.1 hq with hq | hq
          · exact HDo.out q hq
          · rw [List.mem_singleton] at hq; subst hq; exact Hxo.out
        have HDo' := Lib.hid hdo'
        have HKD' := Lib.hid (show [x] ++ K = (D ++ [x]).reverse by rw [HKD.out, List.reverse_append]; rfl)
        clear hdo'
        have HnK := Lib.hid HKn'.out
        obtain ⟨wo, hwo⟩ : ∃ wo, wo = w6 := ⟨_, rfl⟩
        subst hwo
        clear hnin hhb huj hV8 ho6 hr6 e0 e1 hW5 e0' e1'
        go_upto_region 8 with fail
        refine wp_region_tree [2, 3, 5, 7] (fun w' => SU w4.heap.size wr.heap.size x wo w') (fun w' => UJ w4.heap.size wr.heap.size x K AK (.slice AV nD cV) D none none none w') 10 [0, 1, 2, 3, 4, 5, 6, 7, 8, 9] (by rfl) (by decide) (by kernel_rfl) (by kernel_rfl) ⟨(Below.refl _ _).drew, f0, f1⟩ HUJ.out ?_
        refine TxtT.pure 0 (by rfl) (by rw [List.getElem?_toArray]; rfl) (by rfl) (by as_aux_lemma => kernel_rfl) (by rfl) ?_; apply Exists.intro; refine ⟨fun w1 hS1 => ?_, ?_⟩; (focus (skip; go_simp; with_reducible rfl))
        rw [show List.erase [0, 1, 2, 3, 4, 5, 6, 7, 8, 9] 0 = [1, 2, 3, 4, 5, 6, 7, 8, 9] from rfl]; simp only [Act.put, List.setIfInBounds_toArray, List.set_cons_zero, List.set_cons_succ]
        refine TxtT.pure 1 (by rfl) (by rw [List.getElem?_toArray]; rfl) (by rfl) (by as_aux_lemma => kernel_rfl) (by rfl) ?_; apply Exists.intro; refine ⟨fun w1 hS1 => ?_, ?_⟩; (focus ((obtain ⟨_, g0, g1⟩ := hS1); go_simp; with_reducible rfl))
        rw [show List.erase [1, 2, 3, 4, 5, 6, 7, 8, 9] 1 = [2, 3, 4, 5, 6, 7, 8, 9] from rfl]; simp only [Act.put, List.setIfInBounds_toArray, List.set_cons_zero, List.set_cons_succ]
        refine TxtT.pure 4 (by rfl) (by rw [List.getElem?_toArray]; rfl) (by rfl) (by as_aux_lemma => kernel_rfl) (by rfl) ?_; apply Exists.intro; refine ⟨fun w1 hS1 => ?_, ?_⟩; (focus ((obtain ⟨_, g0, g1⟩ := hS1); go_simp; with_reducible rfl))
        rw [show List.erase [2, 3, 4, 5, 6, 7, 8, 9] 4 = [2, 3, 5, 6, 7, 8, 9] from rfl]; simp only [Act.put, List.setIfInBounds_toArray, List.set_cons_zero, List.set_cons_succ]
        refine TxtT.pure 6 (by rfl) (by rw [List.getElem?_toArray]; rfl) (by rfl) (by as_aux_lemma => kernel_rfl) (by rfl) ?_; apply Exists.intro; refine ⟨fun w1 hS1 => ?_, ?_⟩; (focus (skip; go_simp; with_reducible rfl))
        rw [show List.erase [2, 3, 5, 6, 7, 8, 9] 6 = [2, 3, 5, 7, 8, 9] from rfl]; simp only [Act.put, List.setIfInBounds_toArray, List.set_cons_zero, List.set_cons_succ]
        refine TxtT.two 2 5 (by as_aux_lemma => kernel_rfl) (by rw [List.getElem?_toArray]; rfl) (by rw [List.getElem?_toArray]; rfl) (by rfl) (by rfl) (by rfl) (by rfl) (fun v => ∃ g, v = Value.slice (some ⟨g, 0, none⟩) 1 1) (fun v w' => ∃ g2, v = Value.slice (some ⟨g2, 0, none⟩) 1 1 ∧ UJ w4.heap.size wr.heap.size x K AK (.slice AV nD cV) D (some g2) none none w') (fun v => ∃ g, v = Value.slice (some ⟨g, 0, none⟩) 1 1) (fun v w' => ∃ g5, v = Value.slice (some ⟨g5, 0, none⟩) 1 1 ∧ UJ w4.heap.size wr.heap.size x K AK (.slice AV nD cV) D none (some g5) none w') (fun w1 hS1 hJ1 => ?_) (fun w1 hS1 hJ1 => ?_) ?_ ?_
        · exact Eff.value (w' := w1.alloc (.cells #[.int .i64 x.1, .int .i64 x.2] 42)) (v := .slice (some ⟨w1.heap.size, 0, none⟩) 1 1) (by go_simp) ⟨hS1.step (newB w1 _) hJ1.ql hJ1.sz, ⟨_, rfl⟩, _, rfl, hJ1.alloc2⟩
        · exact Eff.value (w' := w1.alloc (.cells #[.int .i64 x.1, .int .i64 x.2] 42)) (v := .slice (some ⟨w1.heap.size, 0, none⟩) 1 1) (by go_simp) ⟨hS1.step (newB w1 _) hJ1.ql hJ1.sz, ⟨_, rfl⟩, _, rfl, hJ1.alloc5⟩
        ·
          rintro _ ⟨g2, rfl⟩
          rw [show List.erase [2, 3, 5, 7, 8, 9] 2 = [3, 5, 7, 8, 9] from rfl]; simp only [Act.put, List.setIfInBounds_toArray, List.set_cons_zero, List.set_cons_succ]
          refine TxtT.weakJ (J2 := fun w' => UJ w4.heap.size wr.heap.size x K AK (.slice AV nD cV) D (some g2) none none w') (fun w1 h => by obtain ⟨g', hq, h⟩ := h; injection hq with hq; injection hq with hq; injection hq with hq _ _; subst hq; exact h) ?_
          refine TxtT.two 3 5 (by as_aux_lemma => kernel_rfl) (by rw [List.getElem?_toArray]; rfl) (by rw [List.getElem?_toArray]; rfl) (by rfl) (by rfl) (by rfl) (by rfl) (fun v => ∃ A n c, v = Value.slice A n c) (fun v w' => ∃ A3 n3 c3, v = Value.slice A3 n3 c3 ∧ UJ w4.heap.size wr.heap.size x K AK (.slice A3 n3 c3) (D ++ [x]) (some g2) none none w') (fun v => ∃ g, v = Value.slice (some ⟨g, 0, none⟩) 1 1) (fun v w' => ∃ g5, v = Value.slice (some ⟨g5, 0, none⟩) 1 1 ∧ UJ w4.heap.size wr.heap.size x K AK (.slice AV nD cV) D (some g2) (some g5) none w') (fun w1 hS1 hJ1 => ?_) (fun w1 hS1 hJ1 => ?_) ?_ ?_
          · refine eff_appPa (.tmp 32) (.tmp 34) (by rfl) w1 w4.heap.size (.slice AV nD cV) D (some ⟨g2, 0, none⟩) [x] 1 1 hJ1.o1 (OwnP.rpr (hJ1.p2 g2 rfl).1) rfl (fun e => by cases e) (by rfl) (by rfl) (by simp; omega) hJ1.sz fun v' w' hown' hb hg hat => ?_
            obtain ⟨A3, c3, rfl⟩ := hown'.shape
            exact ⟨hS1.stepG hg hJ1.sz (fun k hk => (World.ownsRow.lt hJ1.o1 k hk).1) hJ1.ql hJ1.uq, ⟨A3, _, c3, rfl⟩, A3, _, c3, rfl, hJ1.app3 hown' hg hat⟩
          · exact Eff.value (w' := w1.alloc (.cells #[.int .i64 x.1, .int .i64 x.2] 42)) (v := .slice (some ⟨w1.heap.size, 0, none⟩) 1 1) (by go_simp) ⟨hS1.step (newB w1 _) hJ1.ql hJ1.sz, ⟨_, rfl⟩, _, rfl, hJ1.alloc5⟩
          ·
            rintro _ ⟨A3, n3, c3, rfl⟩
            rw [show List.erase [3, 5, 7, 8, 9] 3 = [5, 7, 8, 9] from rfl]; simp only [Act.put, List.setIfInBounds_toArray, List.set_cons_zero, List.set_cons_succ]
            refine TxtT.weakJ (J2 := fun w' => UJ w4.heap.size wr.heap.size x K AK (.slice A3 n3 c3) (D ++ [x]) (some g2) none none w') (fun w1 h => by obtain ⟨a', b', c', hq, h⟩ := h; simp only [Value.slice.injEq] at hq; obtain ⟨hq1, hq2, hq3⟩ := hq; subst hq1; subst hq2; subst hq3; exact h) ?_
            refine TxtT.one 5 (by as_aux_lemma => kernel_rfl) (by rw [List.getElem?_toArray]; rfl) (by rfl) (by rfl) (fun v => ∃ g, v = Value.slice (some ⟨g, 0, none⟩) 1 1) (fun v w' => ∃ g5, v = Value.slice (some ⟨g5, 0, none⟩) 1 1 ∧ UJ w4.heap.size wr.heap.size x K AK (.slice A3 n3 c3) (D ++ [x]) (some g2) (some g5) none w') (fun w1 hS1 hJ1 => ?_) ?_
            · exact Eff.value (w' := w1.alloc (.cells #[.int .i64 x.1, .int .i64 x.2] 42)) (v := .slice (some ⟨w1.heap.size, 0, none⟩) 1 1) (by go_simp) ⟨hS1.step (newB w1 _) hJ1.ql hJ1.sz, ⟨_, rfl⟩, _, rfl, hJ1.alloc5⟩
            rintro _ ⟨g5, rfl⟩
            rw [show List.erase [5, 7, 8, 9] 5 = [7, 8, 9] from rfl]; simp only [Act.put, List.setIfInBounds_toArray, List.set_cons_zero, List.set_cons_succ]
            refine TxtT.weakJ (J2 := fun w' => UJ w4.heap.size wr.heap.size x K AK (.slice A3 n3 c3) (D ++ [x]) (some g2) (some g5) none w') (fun w1 h => by obtain ⟨g', hq, h⟩ := h; injection hq with hq; injection hq with hq; injection hq with hq _ _; subst hq; exact h) ?_
            refine TxtT.one 7 (by as_aux_lemma => kernel_rfl) (by rw [List.getElem?_toArray]; rfl) (by rfl) (by rfl) (fun v => ∃ A n c, v = Value.slice A n c) (fun v w' => ∃ A7 n7 c7, v = Value.slice A7 n7 c7 ∧ UJ w4.heap.size wr.heap.size x K AK (.slice A3 n3 c3) (D ++ [x]) (some g2) none (some (.slice A7 n7 c7)) w') (fun w1 hS1 hJ1 => ?_) ?_
            · refine eff_appPa (.tmp 37) (.tmp 38) (by rfl) w1 w4.heap.size (.slice (some ⟨g5, 0, none⟩) 1 1) [x] AK K nK cK (hJ1.p5 g5 rfl).1 hJ1.k.1 HnK.out HKn.out (by rfl) (by rfl) (by simp; omega) hJ1.sz fun v' w' hown' hb hg hat => ?_
              obtain ⟨A7, c7, rfl⟩ := hown'.shape
              exact ⟨hS1.stepG hg hJ1.sz (fun k hk => (World.ownsRow.lt (hJ1.p5 g5 rfl).1 k hk).1) hJ1.ql (fun e => (hJ1.k5 g5 rfl).1 (by injection e)), ⟨A7, _, c7, rfl⟩, A7, _, c7, rfl, hJ1.app7 hown' hg hat⟩
            rintro _ ⟨A7, n7, c7, rfl⟩
            rw [show List.erase [7, 8, 9] 7 = [8, 9] from rfl]; simp only [Act.put, List.setIfInBounds_toArray, List.set_cons_zero, List.set_cons_succ]
            refine TxtT.weakJ (J2 := fun w' => UJ w4.heap.size wr.heap.size x K AK (.slice A3 n3 c3) (D ++ [x]) (some g2) none (some (.slice A7 n7 c7)) w') (fun w1 h => by obtain ⟨a', b', c', hq, h⟩ := h; simp only [Value.slice.injEq] at hq; obtain ⟨hq1, hq2, hq3⟩ := hq; subst hq1; subst hq2; subst hq3; exact h) ?_
            refine TxtT.pure 8 (by rfl) (by rw [List.getElem?_toArray]; rfl) (by rfl) (by as_aux_lemma => kernel_rfl) (by rfl) ?_; apply Exists.intro; refine ⟨fun w1 hS1 => ?_, ?_⟩; (focus (skip; go_simp; with_reducible rfl))
            rw [show List.erase [8, 9] 8 = [9] from rfl]; simp only [Act.put, List.setIfInBounds_toArray, List.set_cons_zero, List.set_cons_succ]
            refine TxtT.pure 9 (by rfl) (by rw [List.getElem?_toArray]; rfl) (by rfl) (by as_aux_lemma => kernel_rfl) (by rfl) ?_; apply Exists.intro; refine ⟨fun w1 hS1 => ?_, ?_⟩; (focus (skip; go_simp; with_reducible rfl))
            rw [show List.erase [9] 9 = [] from rfl]; simp only [Act.put, List.setIfInBounds_toArray, List.set_cons_zero, List.set_cons_succ]
            refine ⟨rfl, fun w1 hS1 hJ1 => ?_⟩
            have F := Lib.hid hJ1.fin
            have HbS := Lib.hid (hbw6.trans hS1.1)
            clear hS1 hJ1 f0 f1
            go_wp2_with fail
            go_roundw
            case rel => exact ⟨k + 1, D ++ [x], [x] ++ K, A3, n3, c3, A7, n7, c7, hlt, by go_num, rfl, rfl, F.out.1, F.out.2.1, nodup_snoc HDn.out Hnin.out, HDo'.out, HKD'.out, by rw [List.length_append]; simp; omega, F.out.2.2.1, F.out.2.2.2.1, F.out.2.2.2.2.1, F.out.2.2.2.2.2, HbS.out⟩
            case measure => simp [intOf]; omega
          ·
            rintro _ ⟨g5, rfl⟩
            rw [show List.erase [3, 5, 7, 8, 9] 5 = [3, 7, 8, 9] from rfl]; simp only [Act.put, List.setIfInBounds_toArray, List.set_cons_zero, List.set_cons_succ]
            refine TxtT.weakJ (J2 := fun w' => UJ w4.heap.size wr.heap.size x K AK (.slice AV nD cV) D (some g2) (some g5) none w') (fun w1 h => by obtain ⟨g', hq, h⟩ := h; injection hq with hq; injection hq with hq; injection hq with hq _ _; subst hq; exact h) ?_
            refine TxtT.one 3 (by as_aux_lemma => kernel_rfl) (by rw [List.getElem?_toArray]; rfl) (by rfl) (by rfl) (fun v => ∃ A n c, v = Value.slice A n c) (fun v w' => ∃ A3 n3 c3, v = Value.slice A3 n3 c3 ∧ UJ w4.heap.size wr.heap.size x K AK (.slice A3 n3 c3) (D ++ [x]) (some g2) (some g5) none w') (fun w1 hS1 hJ1 => ?_) ?_
            · refine eff_appPa (.tmp 32) (.tmp 34) (by rfl) w1 w4.heap.size (.slice AV nD cV) D (some ⟨g2, 0, none⟩) [x] 1 1 hJ1.o1 (OwnP.rpr (hJ1.p2 g2 rfl).1) rfl (fun e => by cases e) (by rfl) (by rfl) (by simp; omega) hJ1.sz fun v' w' hown' hb hg hat => ?_
              obtain ⟨A3, c3, rfl⟩ := hown'.shape
              exact ⟨hS1.stepG hg hJ1.sz (fun k hk => (World.ownsRow.lt hJ1.o1 k hk).1) hJ1.ql hJ1.uq, ⟨A3, _, c3, rfl⟩, A3, _, c3, rfl, hJ1.app3 hown' hg hat⟩
            rintro _ ⟨A3, n3, c3, rfl⟩
            rw [show List.erase [3, 7, 8, 9] 3 = [7, 8, 9] from rfl]; simp only [Act.put, List.setIfInBounds_toArray, List.set_cons_zero, List.set_cons_succ]
            refine TxtT.weakJ (J2 := fun w' => UJ w4.heap.size wr.heap.size x K AK (.slice A3 n3 c3) (D ++ [x]) (some g2) (some g5) none w') (fun w1 h => by obtain ⟨a', b', c', hq, h⟩ := h; simp only [Value.slice.injEq] at hq; obtain ⟨hq1, hq2, hq3⟩ := hq; subst hq1; subst hq2; subst hq3; exact h) ?_
            refine TxtT.one 7 (by as_aux_lemma => kernel_rfl) (by rw [List.getElem?_toArray]; rfl) (by rfl) (by rfl) (fun v => ∃ A n c, v = Value.slice A n c) (fun v w' => ∃ A7 n7 c7, v = Value.slice A7 n7 c7 ∧ UJ w4.heap.size wr.heap.size x K AK (.slice A3 n3 c3) (D ++ [x]) (some g2) none (some (.slice A7 n7 c7)) w') (fun w1 hS1 hJ1 => ?_) ?_
            · refine eff_appPa (.tmp 37) (.tmp 38) (by rfl) w1 w4.heap.size (.slice (some ⟨g5, 0, none⟩) 1 1) [x] AK K nK cK (hJ1.p5 g5 rfl).1 hJ1.k.1 HnK.out HKn.out (by rfl) (by rfl) (by simp; omega) hJ1.sz fun v' w' hown' hb hg hat => ?_
              obtain ⟨A7, c7, rfl⟩ := hown'.shape
              exact ⟨hS1.stepG hg hJ1.sz (fun k hk => (World.ownsRow.lt (hJ1.p5 g5 rfl).1 k hk).1) hJ1.ql (fun e => (hJ1.k5 g5 rfl).1 (by injection e)), ⟨A7, _, c7, rfl⟩, A7, _, c7, rfl, hJ1.app7 hown' hg hat⟩
            rintro _ ⟨A7, n7, c7, rfl⟩
            rw [show List.erase [7, 8, 9] 7 = [8, 9] from rfl]; simp only [Act.put, List.setIfInBounds_toArray, List.set_cons_zero, List.set_cons_succ]
            refine TxtT.weakJ (J2 := fun w' => UJ w4.heap.size wr.heap.size x K AK (.slice A3 n3 c3) (D ++ [x]) (some g2) none (some (.slice A7 n7 c7)) w') (fun w1 h => by obtain ⟨a', b', c', hq, h⟩ := h; simp only [Value.slice.injEq] at hq; obtain ⟨hq1, hq2, hq3⟩ := hq; subst hq1; subst hq2; subst hq3; exact h) ?_
            refine TxtT.pure 8 (by rfl) (by rw [List.getElem?_toArray]; rfl) (by rfl) (by as_aux_lemma => kernel_rfl) (by rfl) ?_; apply Exists.intro; refine ⟨fun w1 hS1 => ?_, ?_⟩; (focus (skip; go_simp; with_reducible rfl))
            rw [show List.erase [8, 9] 8 = [9] from rfl]; simp only [Act.put, List.setIfInBounds_toArray, List.set_cons_zero, List.set_cons_succ]
            refine TxtT.pure 9 (by rfl) (by rw [List.getElem?_toArray]; rfl) (by rfl) (by as_aux_lemma => kernel_rfl) (by rfl) ?_; apply Exists.intro; refine ⟨fun w1 hS1 => ?_, ?_⟩; (focus (skip; go_simp; with_reducible rfl))
            rw [show List.erase [9] 9 = [] from rfl]; simp only [Act.put, List.setIfInBounds_toArray, List.set_cons_zero, List.set_cons_succ]
            refine ⟨rfl, fun w1 hS1 hJ1 => ?_⟩
            have F := Lib.hid hJ1.fin
            have HbS := Lib.hid (hbw6.trans hS1.1)
            clear hS1 hJ1 f0 f1
            go_wp2_with fail
            go_roundw
            case rel => exact ⟨k + 1, D ++ [x], [x] ++ K, A3, n3, c3, A7, n7, c7, hlt, by go_num, rfl, rfl, F.out.1, F.out.2.1, nodup_snoc HDn.out Hnin.out, HDo'.out, HKD'.out, by rw [List.length_append]; simp; omega, F.out.2.2.1, F.out.2.2.2.1, F.out.2.2.2.2.1, F.out.2.2.2.2.2, HbS.out⟩
            case measure => simp [intOf]; omega
        ·
          rintro _ ⟨g5, rfl⟩
          rw [show List.erase [2, 3, 5, 7, 8, 9] 5 = [2, 3, 7, 8, 9] from rfl]; simp only [Act.put, List.setIfInBounds_toArray, List.set_cons_zero, List.set_cons_succ]
          refine TxtT.weakJ (J2 := fun w' => UJ w4.heap.size wr.heap.size x K AK (.slice AV nD cV) D none (some g5) none w') (fun w1 h => by obtain ⟨g', hq, h⟩ := h; injection hq with hq; injection hq with hq; injection hq with hq _ _; subst hq; exact h) ?_
          refine TxtT.one 2 (by as_aux_lemma => kernel_rfl) (by rw [List.getElem?_toArray]; rfl) (by rfl) (by rfl) (fun v => ∃ g, v = Value.slice (some ⟨g, 0, none⟩) 1 1) (fun v w' => ∃ g2, v = Value.slice (some ⟨g2, 0, none⟩) 1 1 ∧ UJ w4.heap.size wr.heap.size x K AK (.slice AV nD cV) D (some g2) (some g5) none w') (fun w1 hS1 hJ1 => ?_) ?_
          · exact Eff.value (w' := w1.alloc (.cells #[.int .i64 x.1, .int .i64 x.2] 42)) (v := .slice (some ⟨w1.heap.size, 0, none⟩) 1 1) (by go_simp) ⟨hS1.step (newB w1 _) hJ1.ql hJ1.sz, ⟨_, rfl⟩, _, rfl, hJ1.alloc2⟩
          rintro _ ⟨g2, rfl⟩
          rw [show List.erase [2, 3, 7, 8, 9] 2 = [3, 7, 8, 9] from rfl]; simp only [Act.put, List.setIfInBounds_toArray, List.set_cons_zero, List.set_cons_succ]
          refine TxtT.weakJ (J2 := fun w' => UJ w4.heap.size wr.heap.size x K AK (.slice AV nD cV) D (some g2) (some g5) none w') (fun w1 h => by obtain ⟨g', hq, h⟩ := h; injection hq with hq; injection hq with hq; injection hq with hq _ _; subst hq; exact h) ?_
          refine TxtT.one 3 (by as_aux_lemma => kernel_rfl) (by rw [List.getElem?_toArray]; rfl) (by rfl) (by rfl) (fun v => ∃ A n c, v = Value.slice A n c) (fun v w' => ∃ A3 n3 c3, v = Value.slice A3 n3 c3 ∧ UJ w4.heap.size wr.heap.size x K AK (.slice A3 n3 c3) (D ++ [x]) (some g2) (some g5) none w') (fun w1 hS1 hJ1 => ?_) ?_
          · refine eff_appPa (.tmp 32) (.tmp 34) (by rfl) w1 w4.heap.size (.slice AV nD cV) D (some ⟨g2, 0, none⟩) [x] 1 1 hJ1.o1 (OwnP.rpr (hJ1.p2 g2 rfl).1) rfl (fun e => by cases e) (by rfl) (by rfl) (by simp; omega) hJ1.sz fun v' w' hown' hb hg hat => ?_
            obtain ⟨A3, c3, rfl⟩ := hown'.shape
            exact ⟨hS1.stepG hg hJ1.sz (fun k hk => (World.ownsRow.lt hJ1.o1 k hk).1) hJ1.ql hJ1.uq, ⟨A3, _, c3, rfl⟩, A3, _, c3, rfl, hJ1.app3 hown' hg hat⟩
          rintro _ ⟨A3, n3, c3, rfl⟩
          rw [show List.erase [3, 7, 8, 9] 3 = [7, 8, 9] from rfl]; simp only [Act.put, List.setIfInBounds_toArray, List.set_cons_zero, List.set_cons_succ]
          refine TxtT.weakJ (J2 := fun w' => UJ w4.heap.size wr.heap.size x K AK (.slice A3 n3 c3) (D ++ [x]) (some g2) (some g5) none w') (fun w1 h => by obtain ⟨a', b', c', hq, h⟩ := h; simp only [Value.slice.injEq] at hq; obtain ⟨hq1, hq2, hq3⟩ := hq; subst hq1; subst hq2; subst hq3; exact h) ?_
          refine TxtT.one 7 (by as_aux_lemma => kernel_rfl) (by rw [List.getElem?_toArray]; rfl) (by rfl) (by rfl) (fun v => ∃ A n c, v = Value.slice A n c) (fun v w' => ∃ A7 n7 c7, v = Value.slice A7 n7 c7 ∧ UJ w4.heap.size wr.heap.size x K AK (.slice A3 n3 c3) (D ++ [x]) (some g2) none (some (.slice A7 n7 c7)) w') (fun w1 hS1 hJ1 => ?_) ?_
          · refine eff_appPa (.tmp 37) (.tmp 38) (by rfl) w1 w4.heap.size (.slice (some ⟨g5, 0, none⟩) 1 1) [x] AK K nK cK (hJ1.p5 g5 rfl).1 hJ1.k.1 HnK.out HKn.out (by rfl) (by rfl) (by simp; omega) hJ1.sz fun v' w' hown' hb hg hat => ?_
            obtain ⟨A7, c7, rfl⟩ := hown'.shape
            exact ⟨hS1.stepG hg hJ1.sz (fun k hk => (World.ownsRow.lt (hJ1.p5 g5 rfl).1 k hk).1) hJ1.ql (fun e => (hJ1.k5 g5 rfl).1 (by injection e)), ⟨A7, _, c7, rfl⟩, A7, _, c7, rfl, hJ1.app7 hown' hg hat⟩
          rintro _ ⟨A7, n7, c7, rfl⟩
          rw [show List.erase [7, 8, 9] 7 = [8, 9] from rfl]; simp only [Act.put, List.setIfInBounds_toArray, List.set_cons_zero, List.set_cons_succ]
          refine TxtT.weakJ (J2 := fun w' => UJ w4.heap.size wr.heap.size x K AK (.slice A3 n3 c3) (D ++ [x]) (some g2) none (some (.slice A7 n7 c7)) w') (fun w1 h => by obtain ⟨a', b', c', hq, h⟩ := h; simp only [Value.slice.injEq] at hq; obtain ⟨hq1, hq2, hq3⟩ := hq; subst hq1; subst hq2; subst hq3; exact h) ?_
          refine TxtT.pure 8 (by rfl) (by rw [List.getElem?_toArray]; rfl) (by rfl) (by as_aux_lemma => kernel_rfl) (by rfl) ?_; apply Exists.intro; refine ⟨fun w1 hS1 => ?_, ?_⟩; (focus (skip; go_simp; with_reducible rfl))
          rw [show List.erase [8, 9] 8 = [9] from rfl]; simp only [Act.put, List.setIfInBounds_toArray, List.set_cons_zero, List.set_cons_succ]
          refine TxtT.pure 9 (by rfl) (by rw [List.getElem?_toArray]; rfl) (by rfl) (by as_aux_lemma => kernel_rfl) (by rfl) ?_; apply Exists.intro; refine ⟨fun w1 hS1 => ?_, ?_⟩; (focus (skip; go_simp; with_reducible rfl))
          rw [show List.erase [9] 9 = [] from rfl]; simp only [Act.put, List.setIfInBounds_toArray, List.set_cons_zero, List.set_cons_succ]
          refine ⟨rfl, fun w1 hS1 hJ1 => ?_⟩
          have F := Lib.hid hJ1.fin
          have HbS := Lib.hid (hbw6.trans hS1.1)
          clear hS1 hJ1 f0 f1
          go_wp2_with fail
          go_roundw
          case rel => exact ⟨k + 1, D ++ [x], [x] ++ K, A3, n3, c3, A7, n7, c7, hlt, by go_num, rfl, rfl, F.out.1, F.out.2.1, nodup_snoc HDn.out Hnin.out, HDo'.out, HKD'.out, by rw [List.length_append]; simp; omega, F.out.2.2.1, F.out.2.2.2.1, F.out.2.2.2.2.1, F.out.2.2.2.2.2, HbS.out⟩
          case measure => simp [intOf]; omega
    case neg =>
      have hbE := endB hB4 hbw
      have hrl := Hrp4.out.below hbw
      have hrD := Hown.out.rpr
      have hvE : valE (n : Int) l = 0 := HV.out.valE
      have hKn2 : K.Nodup := by rw [HKD.out]; exact (List.reverse_perm D).nodup_iff.2 HDn.out
      have hKo : ∀ q ∈ K, okP n q := fun q hq => HDo.out q (by rw [HKD.out, List.mem_reverse] at hq; exact hq)
      have hln := vld_nodup HV.out
      have ht1 : tgErr (n : Int) l D = 0 := by unfold tgErr; rw [if_pos hvE]; exact tgE_ok HDo.out HDn.out
      have ht2 : tgErr (n : Int) l K = 0 := by unfold tgErr; rw [if_pos hvE]; exact tgE_ok hKo hKn2
      have hv1 := tgL_vld HV.out (tgE_ok HDo.out HDn.out) (by omega)
      have ht3 : tgErr (n : Int) (tgL l D) D = 0 := by unfold tgErr; rw [if_pos hv1.valE]; exact tgE_ok HDo.out HDn.out
      have hord : tgL l K = tgL l D := tgL_order hln hKn2 HDn.out (fun q => by rw [HKD.out, List.mem_reverse])
      have htwo : tgL (tgL l D) D = l := tgL_twice HV.out.2 HDn.out
      have hT1l := tgL_len l D
      obtain ⟨T, hT⟩ : ∃ T, tgL l D = T := ⟨_, rfl⟩
      have r1 : tgN (n : Int) l D = n ∧ tgG (n : Int) l D = T := by unfold tgN tgG; rw [if_pos ht1, if_pos ht1, hT]; exact ⟨rfl, rfl⟩
      have r2 : tgN (n : Int) l K = n ∧ tgG (n : Int) l K = T := by unfold tgN tgG; rw [if_pos ht2, if_pos ht2, hord, hT]; exact ⟨rfl, rfl⟩
      rw [hT] at ht3 htwo hT1l
      have r3 : tgN (n : Int) T D = n ∧ tgG (n : Int) T D = l := by unfold tgN tgG; rw [if_pos ht3, if_pos ht3, htwo]; exact ⟨rfl, rfl⟩
      have c1 := fun W hr1 hr2 => toggle_any AL AV (n : Int) l D cl cV W hr1 hr2 (by omega)
      have c2 := fun W hr1 hr2 => toggle_any AL AK (n : Int) l K cl cK W hr1 hr2 (by omega)
      have c3 := fun A1 c1 W hr1 hr2 => toggle_any A1 AV (n : Int) T D c1 cV W hr1 hr2 (by omega)
      unfold RetTg at c1 c2 c3
      simp only [r1.1, r1.2, ht1] at c1
      simp only [r2.1, r2.2, ht2] at c2
      simp only [r3.1, r3.2, ht3] at c3
      rw [← HnD.out] at c1 c3
      rw [← HKn'.out] at c2
      have hTl : T.length ≤ 100000 := by omega
      have C1 := Lib.hid c1; have C2 := Lib.hid c2; have C3 := Lib.hid c3
      obtain ⟨y0, y1, -, -⟩ := k0r.two
      have HrK := Hrk
      clear c1 c2 c3 r1 r2 r3 ht1 ht2 ht3 hv1 hord htwo hT1l hT hvE hln hKo hKn2
      obtain ⟨W9, hW9⟩ : ∃ W9, W9 = wr := ⟨_, rfl⟩
      subst hW9
      go_wp2_with fail
      refine (C1.out W9 hrl hrD).mono ?_
      rintro e w6 ⟨A1, c1, rfl, hr1, _, hb6⟩
      obtain ⟨X1, hX1, k1, hbX1, hsX1⟩ := boxG w6 (n : Int) A1 T.length c1
      have hb61 := hb6.trans (hbX1.mono hb6.size)
      have k0a := k0r.below hb61 k0r.lt
      have hbE1 := endB hbE hb61
      have hr1a := hr1.below hbX1
      have hrla := hrl.below hb61
      have hrDa := hrD.below hb61
      have hrKa := HrK.out.below hb61
      clear y0 y1 hr1 hrl hrD k0r hbX1 hb6 hbE hb61
      obtain ⟨y0, y1, -, -⟩ := k0a.two
      obtain ⟨x0, x1, -, -⟩ := k1.two
      go_wp2_with fail
      refine (C2.out X1 hrla hrKa).mono ?_
      rintro e w7 ⟨A2, c2, rfl, hr2, _, hb7⟩
      obtain ⟨X2, hX2, k2, hbX2, hsX2⟩ := boxG w7 (n : Int) A2 T.length c2
      have hb71 := hb7.trans (hbX2.mono hb7.size)
      have k0b := k0a.below hb71 k0a.lt
      have k1b := k1.below hb71 k1.lt
      have hbE2 := endB hbE1 hb71
      have hr1b := hr1a.below hb71
      have hr2b := hr2.below hbX2
      have hrlb := hrla.below hb71
      have hrDb := hrDa.below hb71
      clear y0 y1 x0 x1 hr1a hr2 hrla hrDa hrKa k0a k1 hbX2 hb7 hbE1 hb71 hX1 hsX1
      obtain ⟨y0, y1, -, -⟩ := k0b.two
      obtain ⟨x0, x1, -, -⟩ := k1b.two
      obtain ⟨u0, u1, -, -⟩ := k2.two
      go_wp2_with fail
      refine (C3.out A1 c1 X2 hr1b hrDb).mono ?_
      rintro e w8 ⟨A3, c3, rfl, hr3, _, hb8⟩
      obtain ⟨X3, hX3, k3, hbX3, hsX3⟩ := boxG w8 (n : Int) A3 l.length c3
      have hb81 := hb8.trans (hbX3.mono hb8.size)
      have k0c := k0b.below hb81 k0b.lt
      have k1c := k1b.below hb81 k1b.lt
      have k2c := k2.below hb81 k2.lt
      have hbE3 := endB hbE2 hb81
      have hr1c := hr1b.below hb81
      have hr2c := hr2b.below hb81
      have hr3c := hr3.below hbX3
      have hrlc := hrlb.below hb81
      have S1 := nwSame_any A1 A2 (n : Int) (n : Int) T T c1 c2 X3 hr1c hr2c hTl hTl
      rw [show smB (n : Int) T n T = true by unfold smB; simp] at S1
      have S2 := fun W (hW : Below X3.heap.size X3 W) => nwSame_any A3 AL (n : Int) (n : Int) l l c3 cl W (hr3c.below hW) (hrlc.below hW) (by omega) (by omega)
      rw [show smB (n : Int) l n l = true by unfold smB; simp] at S2
      have HS1 := Lib.hid S1; have HS2 := Lib.hid S2
      clear y0 y1 x0 x1 u0 u1 hr1b hr2b hr3 hrlb hrDb k0b k1b k2 hbX3 hb8 hbE2 hb81 hX2 hsX2 S1 S2
      obtain ⟨y0, y1, -, -⟩ := k0c.two
      obtain ⟨x0, x1, -, -⟩ := k1c.two
      obtain ⟨u0, u1, -, -⟩ := k2c.two
      obtain ⟨t0, t1, -, -⟩ := k3.two
      go_wp2_with fail
      refine HS1.out.mono ?_
      rintro e w10 ⟨rfl, hb10⟩
      have k0d := k0c.below hb10 k0c.lt
      have k3d := k3.below hb10 k3.lt
      have hbE4 := endB hbE3 hb10
      clear y0 y1 x0 x1 u0 u1 t0 t1 hX3
      obtain ⟨y0, y1, -, -⟩ := k0d.two
      obtain ⟨t0, t1, -, -⟩ := k3d.two
      go_wp2_with fail
      refine (HS2.out w10 hb10).mono ?_
      rintro e w11 ⟨rfl, hb11⟩
      have hbE5 := endB hbE4 hb11
      clear y0 y1 t0 t1
      go_wp2_with fail
      refine (awake21_any w11 (hT.below hbE5)).mono ?_
      rintro e w12 ⟨rfl, hb12⟩
      go_wp2_with fail
      go_ret
      exact ⟨rfl, endB hbE5 hb12⟩
end Go.Proofs.YtncimnfhfomddaaDoor
