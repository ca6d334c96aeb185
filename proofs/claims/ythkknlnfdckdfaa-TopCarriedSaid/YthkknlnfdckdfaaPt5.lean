/- Package protocol: judged, Apply, New. -/
import Derived.Test.YthkknlnfdckdfaaPt4
import Derived.Test.YthkknlnfdckdfaaTxtZ
namespace Go.Proofs.Ythkknlnfdckdfaa
open Go.ChangeShapes Go.WideShapes Go.ChangeAt Go.RowKit

theorem mvC {w : World} {g : Nat} {t : TypeId} {x0 x1 x2 x3 : Value} (h : Blk w g t #[x0, x1, x2, x3]) : w.cell? ⟨g, 0, none⟩ = some x0 ∧ w.cell? ⟨g, 1, none⟩ = some x1 ∧ w.cell? ⟨g, 2, none⟩ = some x2 ∧ w.cell? ⟨g, 3, none⟩ = some x3 ∧ w.frozen? ⟨g, 0, none⟩ = false ∧ w.frozen? ⟨g, 1, none⟩ = false ∧ w.frozen? ⟨g, 2, none⟩ = false ∧ w.frozen? ⟨g, 3, none⟩ = false :=
  ⟨by rw [h.cell]; rfl, by rw [h.cell]; rfl, by rw [h.cell]; rfl, by rw [h.cell]; rfl, h.frozen 0, h.frozen 1, h.frozen 2, h.frozen 3⟩
theorem set4 {w : World} {g : Nat} {t : TypeId} {x y z u : Value} (h : Blk w g t #[x, y, z, u]) (x' y' z' u' : Value) : Blk ((((w.setCell ⟨g, 0, none⟩ x').setCell ⟨g, 1, none⟩ y').setCell ⟨g, 2, none⟩ z').setCell ⟨g, 3, none⟩ u') g t #[x', y', z', u'] := (((h.set_ 0 x').set_ 1 y').set_ 2 z').set_ 3 u'
theorem below_set4 {B : Nat} {w w' : World} {g : Nat} (h : Below B w w') (hg : B ≤ g) (x y z u : Value) : Below B w ((((w'.setCell ⟨g, 0, none⟩ x).setCell ⟨g, 1, none⟩ y).setCell ⟨g, 2, none⟩ z).setCell ⟨g, 3, none⟩ u) := (((h.setCell (p := ⟨g, 0, none⟩) hg x).setCell (p := ⟨g, 1, none⟩) hg y).setCell (p := ⟨g, 2, none⟩) hg z).setCell (p := ⟨g, 3, none⟩) hg u
theorem boxed3A (w : World) (t u v : TypeId) (cs ds es : Array Value) : ∃ W0, ((w.alloc (.cells cs t)).alloc (.cells ds u)).alloc (.cells es v) = W0 ∧ Blk W0 w.heap.size t cs ∧ Blk W0 (w.heap.size + 1) u ds ∧ Blk W0 (w.heap.size + 2) v es ∧ Below w.heap.size w W0 ∧ W0.heap.size = w.heap.size + 3 := by
  refine ⟨_, rfl, ((Blk.new w t cs).alloc _).alloc _, ?_, ?_, (((Below.refl _ _).alloc (Nat.le_refl _) _).alloc (by simp) _).alloc (by simp; omega) _, by simp⟩
  · have := (Blk.new (w.alloc (.cells cs t)) u ds).alloc (.cells es v)
    simpa using this
  · have := Blk.new ((w.alloc (.cells cs t)).alloc (.cells ds u)) v es
    simpa using this
theorem leg_in {n : Nat} {l : List (Int × Int)} (hv : InR n l) {ms : List Mv} {m : Mv} (h : m ∈ legL l ms) : m.1 = 3 - leadr ms ∧ m.2.1 = 2 ∧ (0 ≤ m.2.2.1 ∧ m.2.2.1 < n) ∧ 0 ≤ m.2.2.2 ∧ m.2.2.2 < ms.length := by
  obtain ⟨i, hi, hx⟩ := mem_legL.1 h
  obtain ⟨_, _, p, hp, _, rfl⟩ := mem_legAt.1 hx
  obtain ⟨q1, q2, _, _⟩ := hv.2.2 p hp
  exact ⟨rfl, rfl, ⟨q1, q2⟩, by show (0 : Int) ≤ (i : Int); omega, by show (i : Int) < (ms.length : Int); omega⟩
set_option maxRecDepth 100000 in
set_option maxHeartbeats 8000000 in
theorem judged_any (n : Nat) (A : Option Addr) (l : List (Int × Int)) (c : Nat) (root l0 l1 : Int) (M : Option Addr) (ms : List Mv) (cm : Nat) (S : Option Addr) (sk sc gL : Nat) (m : Mv) (w : World) (hp : RP w A l) (hv : InR n l) (hr : RM w M ms) (hm : OkM ms) (hl : ms.length ≤ 300) (hll : l.length ≤ 1600) (hrl : RowB w gL ms.length (ldF ms)) (hmay : MayB l ms m) :
    Calls Try.prog 52 #[.agg #[.int .i64 (n : Int), .slice A l.length c, .int .i64 root, .int .i64 l0, .int .i64 l1, .slice M ms.length cm, .slice S sk sc, .int .i64 (leadr ms), .slice (some ⟨gL, 0, none⟩) ms.length ms.length], .agg #[.int .i64 m.1, .int .i64 m.2.1, .int .i64 m.2.2.1, .int .i64 m.2.2.2]] w (RetB (.tuple #[.agg #[.int .i64 m.1, .int .i64 m.2.1, .int .i64 m.2.2.1, .int .i64 m.2.2.2], .int .i64 0]) w) := by
  have hlg : ∀ wx, Below w.heap.size w wx → Calls Try.prog 61 #[.agg #[.int .i64 (n : Int), .slice A l.length c, .int .i64 root, .int .i64 l0, .int .i64 l1, .slice M ms.length cm, .slice S sk sc, .int .i64 (leadr ms), .slice (some ⟨gL, 0, none⟩) ms.length ms.length]] wx (RetMn (legL l ms) wx) := fun wx hb =>
    tLegal_any n A l c root l0 l1 M ms cm S sk sc gL wx (hp.below hb) (hr.below hb) hm hl hll (hrl.below hb)
  have hlen : (legL l ms).length ≤ 300 * 1600 := Nat.le_trans (legR_len l ms ms.length) (Nat.mul_le_mul hl hll)
  have hself : ((3 - leadr ms) != (3 - leadr ms)) = false := by simp
  have hot : ∀ wx, Calls Try.prog 43 #[.int .i64 (leadr ms)] wx (Ret (.int .i64 (3 - leadr ms)) wx) := fun wx => other_any (leadr ms) wx (leadr_12 ms)
  have Hlg := Lib.hid hlg; have Hlen := Lib.hid hlen
  clear hlg hlen hp hr hm hrl
  rcases hmay with hin | hco
  · obtain ⟨h1, h2, ⟨h3, h4⟩, h5, h6⟩ := leg_in hv hin
    have Hin := Lib.hid (show (legL l ms).contains m = true from List.contains_iff_mem.2 hin)
    clear hv hin
    obtain ⟨m1, m2, m3, m4⟩ := m
    simp only at h1 h2 h3 h4 h5 h6 ⊢
    subst h1 h2
    have d1 : decide (m4 < 0) = false := decide_eq_false (by omega)
    have d2 : decide ((ms.length : Int) ≤ m4) = false := decide_eq_false (by omega)
    have d3 : decide (m3 < 0) = false := decide_eq_false (by omega)
    have d4 : decide ((n : Int) ≤ m3) = false := decide_eq_false (by omega)
    go_enter Try.func52, Try.ntmps52
    go_upto_region 1 with fail
    obtain ⟨W0, hW, k0, k1, k2, hb0, hs0⟩ := boxed3A w 102 46 46 #[.int .i64 (n : Int), .slice A l.length c, .int .i64 root, .int .i64 l0, .int .i64 l1, .slice M ms.length cm, .slice S sk sc, .int .i64 (leadr ms), .slice (some ⟨gL, 0, none⟩) ms.length ms.length] #[.int .i64 (3 - leadr ms), .int .i64 2, .int .i64 m3, .int .i64 m4] #[.int .i64 0, .int .i64 0, .int .i64 0, .int .i64 0]
    rw [hW]
    obtain ⟨z0, z1, z2, z3, z4, z5, z6, z7, z8⟩ := tbC k0
    obtain ⟨y0, y1, y2, y3, _, _, _, _⟩ := mvC k1
    have Hb0 := Lib.hid hb0; have Hk2 := Lib.hid k2
    clear hW k0 k1 k2 hb0
    go_upto_region 7 with fail
    go_quiet ((refine (hot _).mono ?_; rintro e w' ⟨rfl, rfl⟩; exact ⟨rfl, _, rfl⟩))
    go_wp2_with fail
    refine wp_region_textB [1, 3] (fun w' => Below W0.heap.size W0 w') (fun _ => True) (by kernel_rfl) (by kernel_rfl) (by kernel_rfl) (below_drewN (below_drewN (Below.refl _ _) nq) 1) trivial ?_
    repeat (first
      | (refine TxtBL.skip (by rfl) ?_; simp only [Act.put, List.setIfInBounds_toArray, List.set_cons_zero, List.set_cons_succ])
      | (refine TxtBL.take (by rfl) (by rfl) ?_; apply Exists.intro; refine ⟨fun w1 hS1 => ?_, ?_⟩; (focus ((have g0 := (hS1.cell (lt_of_cell z0)).trans z0); (have g1 := (hS1.cell (lt_of_cell z1)).trans z1); (have g2 := (hS1.cell (lt_of_cell z2)).trans z2); (have g3 := (hS1.cell (lt_of_cell z3)).trans z3); (have g4 := (hS1.cell (lt_of_cell z4)).trans z4); (have g5 := (hS1.cell (lt_of_cell z5)).trans z5); (have g6 := (hS1.cell (lt_of_cell z6)).trans z6); (have g7 := (hS1.cell (lt_of_cell z7)).trans z7); (have g8 := (hS1.cell (lt_of_cell z8)).trans z8); (have h0 := (hS1.cell (lt_of_cell y0)).trans y0); (have h1 := (hS1.cell (lt_of_cell y1)).trans y1); (have h2 := (hS1.cell (lt_of_cell y2)).trans y2); (have h3 := (hS1.cell (lt_of_cell y3)).trans y3); go_simp; with_reducible rfl)); simp only [Act.put, List.setIfInBounds_toArray, List.set_cons_zero, List.set_cons_succ])
      | (refine TxtBL.takeE (by rfl) (by rfl) ?_; apply Exists.intro; refine ⟨fun w1 hS1 => ?_, ?_⟩; (focus ((have g0 := (hS1.cell (lt_of_cell z0)).trans z0); (have g1 := (hS1.cell (lt_of_cell z1)).trans z1); (have g2 := (hS1.cell (lt_of_cell z2)).trans z2); (have g3 := (hS1.cell (lt_of_cell z3)).trans z3); (have g4 := (hS1.cell (lt_of_cell z4)).trans z4); (have g5 := (hS1.cell (lt_of_cell z5)).trans z5); (have g6 := (hS1.cell (lt_of_cell z6)).trans z6); (have g7 := (hS1.cell (lt_of_cell z7)).trans z7); (have g8 := (hS1.cell (lt_of_cell z8)).trans z8); (have h0 := (hS1.cell (lt_of_cell y0)).trans y0); (have h1 := (hS1.cell (lt_of_cell y1)).trans y1); (have h2 := (hS1.cell (lt_of_cell y2)).trans y2); (have h3 := (hS1.cell (lt_of_cell y3)).trans y3); go_simp; with_reducible rfl)); simp only [Act.put, List.setIfInBounds_toArray, List.set_cons_zero, List.set_cons_succ]))
    refine TxtBL.call (f := 61) (args := #[.agg #[.int .i64 (n : Int), .slice A l.length c, .int .i64 root, .int .i64 l0, .int .i64 l1, .slice M ms.length cm, .slice S sk sc, .int .i64 (leadr ms), .slice (some ⟨gL, 0, none⟩) ms.length ms.length]]) (fun u => ∃ A4 c4, u = .slice A4 (legL l ms).length c4) (fun u w' => ∀ A4 c4, u = .slice A4 (legL l ms).length c4 → RM w' A4 (legL l ms)) (by rfl) (by rfl) ⟨_, none, 0, rfl⟩ (fun w2 hS1 hJ1 => by go_simp) (fun w2 hS1 hJ1 => ?_) ?_
    · refine (Hlg.out w2 (Hb0.out.trans (hS1.mono Hb0.out.size))).mono ?_
      rintro e w' ⟨A4, c4, rfl, ho, hb⟩
      refine ⟨_, rfl, hS1.trans (hb.mono hS1.size), ⟨A4, c4, rfl⟩, fun A5 c5 e => ?_⟩
      obtain ⟨A6, c6, e6, h6, _, _⟩ := ho.form
      rw [e6] at e
      injection e with e _ _
      subst e
      exact h6
    rintro u ⟨A4, c4, rfl⟩
    simp only [Act.put, List.setIfInBounds_toArray, List.set_cons_zero, List.set_cons_succ]
    repeat (first
      | (refine TxtBL.skip (by rfl) ?_; simp only [Act.put, List.setIfInBounds_toArray, List.set_cons_zero, List.set_cons_succ])
      | (refine TxtBL.take (by rfl) (by rfl) ?_; apply Exists.intro; refine ⟨fun w1 hS1 => ?_, ?_⟩; (focus ((have g0 := (hS1.cell (lt_of_cell z0)).trans z0); (have g1 := (hS1.cell (lt_of_cell z1)).trans z1); (have g2 := (hS1.cell (lt_of_cell z2)).trans z2); (have g3 := (hS1.cell (lt_of_cell z3)).trans z3); (have g4 := (hS1.cell (lt_of_cell z4)).trans z4); (have g5 := (hS1.cell (lt_of_cell z5)).trans z5); (have g6 := (hS1.cell (lt_of_cell z6)).trans z6); (have g7 := (hS1.cell (lt_of_cell z7)).trans z7); (have g8 := (hS1.cell (lt_of_cell z8)).trans z8); (have h0 := (hS1.cell (lt_of_cell y0)).trans y0); (have h1 := (hS1.cell (lt_of_cell y1)).trans y1); (have h2 := (hS1.cell (lt_of_cell y2)).trans y2); (have h3 := (hS1.cell (lt_of_cell y3)).trans y3); go_simp; with_reducible rfl)); simp only [Act.put, List.setIfInBounds_toArray, List.set_cons_zero, List.set_cons_succ])
      | (refine TxtBL.takeE (by rfl) (by rfl) ?_; apply Exists.intro; refine ⟨fun w1 hS1 => ?_, ?_⟩; (focus ((have g0 := (hS1.cell (lt_of_cell z0)).trans z0); (have g1 := (hS1.cell (lt_of_cell z1)).trans z1); (have g2 := (hS1.cell (lt_of_cell z2)).trans z2); (have g3 := (hS1.cell (lt_of_cell z3)).trans z3); (have g4 := (hS1.cell (lt_of_cell z4)).trans z4); (have g5 := (hS1.cell (lt_of_cell z5)).trans z5); (have g6 := (hS1.cell (lt_of_cell z6)).trans z6); (have g7 := (hS1.cell (lt_of_cell z7)).trans z7); (have g8 := (hS1.cell (lt_of_cell z8)).trans z8); (have h0 := (hS1.cell (lt_of_cell y0)).trans y0); (have h1 := (hS1.cell (lt_of_cell y1)).trans y1); (have h2 := (hS1.cell (lt_of_cell y2)).trans y2); (have h3 := (hS1.cell (lt_of_cell y3)).trans y3); go_simp; with_reducible rfl)); simp only [Act.put, List.setIfInBounds_toArray, List.set_cons_zero, List.set_cons_succ]))
    refine TxtBL.call (f := 63) (args := #[.slice A4 (legL l ms).length c4, .agg #[.int .i64 (3 - leadr ms), .int .i64 2, .int .i64 m3, .int .i64 m4]]) (fun u => u = .bool true) (fun _ _ => True) (by rfl) (by rfl) ⟨_, rfl⟩ (fun w2 hS1 hJ1 => by go_simp) (fun w2 hS1 hJ1 => ?_) ?_
    · refine (containsM_any A4 (legL l ms) c4 ((3 - leadr ms, 2, m3, m4) : Mv) w2 (hJ1 _ _ rfl) (by have := Hlen.out; omega)).mono ?_
      rintro e w' ⟨rfl, hb⟩
      exact ⟨_, rfl, hS1.trans (hb.mono hS1.size), by rw [Hin.out], trivial⟩
    rintro u rfl
    simp only [Act.put, List.setIfInBounds_toArray, List.set_cons_zero, List.set_cons_succ]
    repeat (first
      | (refine TxtBL.skip (by rfl) ?_; simp only [Act.put, List.setIfInBounds_toArray, List.set_cons_zero, List.set_cons_succ])
      | (refine TxtBL.take (by rfl) (by rfl) ?_; apply Exists.intro; refine ⟨fun w1 hS1 => ?_, ?_⟩; (focus (skip; go_simp; with_reducible rfl)); simp only [Act.put, List.setIfInBounds_toArray, List.set_cons_zero, List.set_cons_succ])
      | (refine TxtBL.takeE (by rfl) (by rfl) ?_; apply Exists.intro; refine ⟨fun w1 hS1 => ?_, ?_⟩; (focus (skip; go_simp; with_reducible rfl)); simp only [Act.put, List.setIfInBounds_toArray, List.set_cons_zero, List.set_cons_succ]))
    refine TxtBL.nil (fun w2 hS hJ => ?_)
    have hk3 := Hk2.out.below hS (by omega)
    obtain ⟨q0, q1, q2, q3, f0, f1, f2, f3⟩ := mvC hk3
    have t0 := (hS.cell (lt_of_cell y0)).trans y0
    have t1 := (hS.cell (lt_of_cell y1)).trans y1
    have t2 := (hS.cell (lt_of_cell y2)).trans y2
    have t3 := (hS.cell (lt_of_cell y3)).trans y3
    have Hk3 := Lib.hid hk3; have HS := Lib.hid hS
    clear hk3 hS z0 z1 z2 z3 z4 z5 z6 z7 z8 y0 y1 y2 y3
    go_wp2_with fail
    have hk4 := set4 Hk3.out (.int .i64 (3 - leadr ms)) (.int .i64 2) (.int .i64 m3) (.int .i64 m4)
    obtain ⟨r0, r1, r2, r3, _, _, _, _⟩ := mvC hk4
    refine bodyPost_ret (v := .tuple #[.agg #[.int .i64 (3 - leadr ms), .int .i64 2, .int .i64 m3, .int .i64 m4], .int .i64 0]) (by simp [results, Try.results52, go_sem, r0, r1, r2, r3]) rfl ?_
    exact ⟨rfl, below_set4 (Hb0.out.trans (HS.out.mono Hb0.out.size)) (by omega) _ _ _ _⟩
  · subst hco
    simp only
    go_enter Try.func52, Try.ntmps52
    go_upto_region 1 with fail
    obtain ⟨W0, hW, k0, k1, k2, hb0, hs0⟩ := boxed3A w 102 46 46 #[.int .i64 (n : Int), .slice A l.length c, .int .i64 root, .int .i64 l0, .int .i64 l1, .slice M ms.length cm, .slice S sk sc, .int .i64 (leadr ms), .slice (some ⟨gL, 0, none⟩) ms.length ms.length] #[.int .i64 (3 - leadr ms), .int .i64 4, .int .i64 0, .int .i64 0] #[.int .i64 0, .int .i64 0, .int .i64 0, .int .i64 0]
    rw [hW]
    obtain ⟨z0, z1, z2, z3, z4, z5, z6, z7, z8⟩ := tbC k0
    obtain ⟨y0, y1, y2, y3, _, _, _, _⟩ := mvC k1
    have Hb0 := Lib.hid hb0
    obtain ⟨q0, q1, q2, q3, f0, f1, f2, f3⟩ := mvC k2
    have Hk2 := Lib.hid k2
    clear hW k0 k1 k2 hb0 hs0
    go_upto_region 7 with fail
    go_quiet ((refine (hot _).mono ?_; rintro e w' ⟨rfl, rfl⟩; exact ⟨rfl, _, rfl⟩))
    go_wp2_with fail
    have hk3 : Blk (W0.drewN nq) (w.heap.size + 2) 46 #[.int .i64 0, .int .i64 0, .int .i64 0, .int .i64 0] := Hk2.out
    have hk4 := set4 hk3 (.int .i64 (3 - leadr ms)) (.int .i64 4) (.int .i64 0) (.int .i64 0)
    obtain ⟨r0, r1, r2, r3, _, _, _, _⟩ := mvC hk4
    refine bodyPost_ret (v := .tuple #[.agg #[.int .i64 (3 - leadr ms), .int .i64 4, .int .i64 0, .int .i64 0], .int .i64 0]) (by simp [results, Try.results52, go_sem, r0, r1, r2, r3]) rfl ?_
    exact ⟨rfl, below_set4 (below_drewN Hb0.out _) (by omega) _ _ _ _⟩
/-- the call returns a new slice of pairs -/
def RetPs (l : List (Int × Int)) (w : World) : Ending → World → Prop := fun e w' => ∃ A c, e = .returned (.slice A l.length c) ∧ OwnP w' w.heap.size (.slice A l.length c) l ∧ Below w.heap.size w w'
theorem own_emptyPs (w : World) : OwnP (w.alloc (.cells #[] 73)) w.heap.size (.slice (some ⟨w.heap.size, 0, none⟩) 0 0) [] :=
  World.ownsRow_made w #[] 0 (Nat.le_refl _) (by decide) (by simp)
set_option maxRecDepth 100000 in
/-- 'out = append(out, xs...)', out a slice of pairs of the call's own -/
theorem wpList_appPq {ops : Array Oper} {rest : List Oper} {o : Oper} {a : Act} {Q : Exit → Act → World → Prop} (hgd : o.guard = none) (s x : Operand)
    (ho : o.op = .call { callee := .builtin .append, args := #[s, x], argTypes := #[26, 26] })
    (X : World) (base : Nat) (v : Value) (l : List (Int × Int)) (B : Option Addr) (l2 : List (Int × Int)) (c : Nat) (hown : OwnP X base v l) (hr : RP X B l2) (hB : B = none → l2 = [] ∧ c = 0) (hs : a.eval s = v) (hx : a.eval x = .slice B l2.length c)
    (hlen : l.length + l2.length ≤ 1000000) (hbase : base ≤ X.heap.size)
    (h : ∀ v' w', OwnP w' base v' (l ++ l2) → Below base X w' → X.grownBy w' v.ownBlock → wpList Try.prog ops Q rest (a.put o.dst v') w') :
    wpList Try.prog ops Q (o :: rest) a X := by
  obtain ⟨i0, hi, hz0, hz1, hz2⟩ := info_parts info_pair
  cases B with
  | none =>
    obtain ⟨rfl, rfl⟩ := hB rfl
    refine wpList_append_own_none hgd s x 26 ho base 73 i0 2 Try.underlying26 hi v l.length _ hs hown hx (h v X ?_ (Below.refl _ _) (grownBy_refl _ _))
    rw [List.append_nil]; exact hown
  | some ad =>
    refine wpList_append_own _ hgd s x 26 ho base 73 i0 (.agg #[.int .i64 0, .int .i64 0]) 2 16 Try.underlying26 hi hz0 hz1 hz2 rfl (by decide) v l.length _ hs hown ad l2.length c (flatP l2) hx (flatP_length l2) (fun j u hu => ?_)
      (by
        intro u hu
        unfold flatP at hu
        rw [List.mem_flatMap] at hu
        obtain ⟨y, _, hy⟩ := hu
        simp at hy
        rcases hy with rfl | rfl <;> rfl) (by unfold maxLen; omega) (by omega) hbase ?_
    · have hj := (List.getElem?_eq_some_iff.1 hu).1
      rw [flatP_length] at hj
      have hk : j / 2 < l2.length := by omega
      obtain ⟨b, off, hA, hc, hd⟩ := hr (j / 2) hk
      injection hA with hA; subst hA
      have hf := flatP_at l2 (j / 2) hk
      have hadd : (⟨b, off, none⟩ : Addr).add j = ⟨b, off + j, none⟩ := by unfold Addr.add; split <;> simp_all
      rw [hadd]
      rcases Nat.mod_two_eq_zero_or_one j with hm | hm
      · rw [show j / 2 * 2 = j by omega] at hc hf
        rw [hc, ← hu]; exact hf.1.symm
      · rw [show off + j / 2 * 2 + 1 = off + j by omega] at hd
        rw [show j / 2 * 2 + 1 = j by omega] at hf
        rw [hd, ← hu]; exact hf.2.symm
    · intro v' w1 hown' hgrow _
      refine h v' w1 ?_ ((Below.refl base X).grown hgrow hbase (fun k hk => (hown.lt k hk).1)) hgrow
      unfold OwnP; rw [List.length_append]; simp only [flatP, List.flatMap_append]; exact hown'
set_option maxRecDepth 100000 in
set_option maxHeartbeats 1000000 in
theorem clonePs_any (A : Option Addr) (l : List (Int × Int)) (c : Nat) (w : World) (hr : RP w A l) (hn : A = none → l = [] ∧ c = 0) (hl : l.length ≤ 100000) :
    Calls Try.prog 24 #[.slice A l.length c] w (RetPs l w) := by
  cases A with
  | none =>
    obtain ⟨rfl, rfl⟩ := hn rfl
    have heq : ∀ W : World, (binOp .eql 26 (.slice none 0 0) (.slice none 0 0)).run Try.prog W = .ok (.bool true) W := fun W => Lib.run_eql_slice_nil W _ _ none _ _ 0 0 Try.underlying26
    go_enter Try.func24, Try.ntmps24
    go_wp2_with fail
    go_ret
    exact ⟨none, 0, rfl, OwnP.nil _ _, Below.refl _ _⟩
  | some ad =>
    have Hr := Lib.hid (hr.below (newB w (.cells #[] 73)))
    clear hr hn
    have heq : ∀ W : World, (binOp .eql 26 (.slice (some ad) l.length c) (.slice none 0 0)).run Try.prog W = .ok (.bool false) W := fun W => Lib.run_eql_slice_nil W _ _ (some ad) _ _ 0 0 Try.underlying26
    go_enter Try.func24, Try.ntmps24
    go_wp2_with (at_builtin; refine wpList_appPq (by rfl) _ _ (by rfl) (w.alloc (.cells #[] 73)) w.heap.size _ [] (some ad) l c (own_emptyPs w) Hr.out (by simp) (by rfl) (by rfl) (by simp; omega) (by simp) ?_; intro v' w1 hown hb1 hg1; rw [List.nil_append] at hown; (obtain ⟨A', c', rfl, _, _⟩ := OwnP.form hown); have Hown := Lib.hid hown; clear hown hg1)
    go_ret
    exact ⟨A', c', rfl, Hown.out, (newB w _).trans hb1⟩
set_option maxRecDepth 100000 in
set_option maxHeartbeats 1000000 in
theorem cloneM_any (A : Option Addr) (l : List Mv) (c : Nat) (w : World) (hr : RM w A l) (hn : A = none → l = [] ∧ c = 0) (hl : l.length ≤ 100000) :
    Calls Try.prog 28 #[.slice A l.length c] w (RetMn l w) := by
  cases A with
  | none =>
    obtain ⟨rfl, rfl⟩ := hn rfl
    have heq : ∀ W : World, (binOp .eql 32 (.slice none 0 0) (.slice none 0 0)).run Try.prog W = .ok (.bool true) W := fun W => Lib.run_eql_slice_nil W _ _ none _ _ 0 0 Try.underlying32
    go_enter Try.func28, Try.ntmps28
    go_wp2_with fail
    go_ret
    exact ⟨none, 0, rfl, OwnM.nil _ _, Below.refl _ _⟩
  | some ad =>
    have Hr := Lib.hid (hr.below (newB w (.cells #[] 46)))
    clear hr hn
    have heq : ∀ W : World, (binOp .eql 32 (.slice (some ad) l.length c) (.slice none 0 0)).run Try.prog W = .ok (.bool false) W := fun W => Lib.run_eql_slice_nil W _ _ (some ad) _ _ 0 0 Try.underlying32
    go_enter Try.func28, Try.ntmps28
    go_wp2_with (at_builtin; refine wpList_appMs (by rfl) _ _ (by rfl) (w.alloc (.cells #[] 46)) w.heap.size _ [] (some ad) l c (own_emptyM w) Hr.out (by simp) (by rfl) (by rfl) (by simp; omega) (by simp) ?_; intro v' w1 hown hb1 hg1; rw [List.nil_append] at hown; (obtain ⟨A', c', rfl, _, _, _⟩ := OwnM.form hown); have Hown := Lib.hid hown; clear hown hg1)
    go_ret
    exact ⟨A', c', rfl, Hown.out, (newB w _).trans hb1⟩
end Go.Proofs.Ythkknlnfdckdfaa
