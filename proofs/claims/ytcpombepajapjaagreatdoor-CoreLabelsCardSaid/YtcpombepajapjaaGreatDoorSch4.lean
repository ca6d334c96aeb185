/- search.Complete. -/
import Derived.Test.YtcpombepajapjaaGreatDoorSch3
import Derived.Test.YtcpombepajapjaaGreatDoorRev
namespace Go.Proofs.YtcpombepajapjaaGreatDoor
open Go.ChangeShapes Go.WideShapes Go.ChangeAt Go.RowKit

/-- all complete labellings, or an error -/
def compR (N : Int) (l : List (Int × Int)) : List (List Int) × Int := if valE N l = 0 then (if 200 < (compL N.toNat l).length then ([], 2) else (compL N.toNat l, 0)) else ([], valE N l)
theorem compR_bad {N : Int} {l : List (Int × Int)} (h : valE N l ≠ 0) : compR N l = ([], valE N l) := by unfold compR; rw [if_neg h]
theorem compR_ok {n : Nat} {l : List (Int × Int)} (h : valE n l = 0) : compR n l = if 200 < (compL n l).length then ([], 2) else (compL n l, 0) := by unfold compR; rw [if_pos h, Int.toNat_natCast]
/-- the call returns lists and an error -/
def RetLE (r : List (List Int) × Int) (w : World) : Ending → World → Prop := fun e w' => ∃ A c, e = .returned (.tuple #[.slice A r.1.length c, .int .i64 r.2]) ∧ RSo w' A r.1 ∧ (A = none → r.1 = [] ∧ c = 0) ∧ Below w.heap.size w w'
theorem RSo.nil (w : World) (A : Option Addr) : RSo w A [] := fun k hk => absurd hk (by simp)
theorem OwnS.forms2 {w : World} {b b' : Nat} {v : Value} {xs : List Value} {ls : List (List Int)} (h : OwnS w b v xs) (hl : OwnL w b' xs ls) : ∃ A c, v = .slice A ls.length c ∧ RSo w A ls ∧ (A = none → ls = [] ∧ c = 0) := by
  obtain ⟨A, c, e, hr⟩ := OwnS.forms h hl
  refine ⟨A, c, e, hr, fun hA => ?_⟩
  obtain ⟨_, h2⟩ := h
  rcases h2 with ⟨e2, hn⟩ | ⟨g, cap, cur, e2, _⟩
  · rw [e] at e2
    injection e2 with _ e3 e4
    exact ⟨List.eq_nil_of_length_eq_zero e3, e4⟩
  · rw [e, hA] at e2; injection e2 with e3; cases e3
theorem att_of_own {w : World} {B f : Nat} {v : Value} {xs : List Value} {ls : List (List Int)} (hs : OwnS w B v xs) (hl : OwnL w B xs ls) (hf : f < B) : ∃ A c, v = .slice A ls.length c ∧ AttOk w f w.heap.size A ls := by
  have hs' := hs
  obtain ⟨h1, h2⟩ := hs
  rcases h2 with ⟨rfl, hn⟩ | ⟨g, cap, cur, rfl, hg, hgl, r⟩
  · have : ls = [] := List.eq_nil_of_length_eq_zero (by rw [← hl.1]; exact hn)
    subst this
    exact ⟨none, 0, rfl, fun k hk => absurd hk (by simp)⟩
  · refine ⟨some ⟨g, 0, none⟩, cap, by rw [hl.1], fun k hk => ?_⟩
    obtain ⟨A', c', hx, hr⟩ := hl.2 k hk
    have e : ls.getD k [] = ls[k] := by simp [List.getD, hk]
    rw [e] at hx hr
    have c0 := hs'.cells (g := g) rfl _ _ hx
    rw [show (⟨g, 0, none⟩ : Addr).add k = ⟨g, 0 + k, none⟩ by unfold Addr.add; split <;> simp_all] at c0
    refine ⟨g, 0, A', c', rfl, by omega, (World.ownsRow.lt hs' g rfl).2, c0, fun j hj => ?_⟩
    obtain ⟨b, o, hA, hc⟩ := hr.ri.at_ hj
    have hob : (Value.slice A' ls[k].length c').ownBlock = some b := by rw [hA]; rfl
    have := World.ownsRow.lt hr b hob
    exact ⟨b, o, hA, by omega, this.2, hc⟩
theorem dC_zero : dC (fullD 0) = #[.int .i64 0, .int .i64 0, .int .i64 0, .int .i64 0, .int .i64 0, .int .i64 0, .int .i64 0, .int .i64 0, .int .i64 0, .int .i64 0, .int .i64 0, .int .i64 0, .int .i64 0, .int .i64 0, .int .i64 0, .int .i64 0, .int .i64 0, .int .i64 0, .int .i64 0, .int .i64 0, .int .i64 0, .int .i64 0, .int .i64 0, .int .i64 0, .int .i64 0, .int .i64 0, .int .i64 0, .int .i64 0, .int .i64 0, .int .i64 0, .int .i64 0, .int .i64 0, .int .i64 0, .int .i64 0, .int .i64 0, .int .i64 0, .int .i64 0, .int .i64 0, .int .i64 0, .int .i64 0] := by kernel_rfl
set_option maxRecDepth 100000 in
theorem finC_zero (n : Nat) : finC n (.slice none 0 0) (fullD 0) (.slice none 0 0) false = #[.int .i64 (n : Int), .slice none 0 0, .int .i64 0, .int .i64 0, .int .i64 0, .int .i64 0, .int .i64 0, .int .i64 0, .int .i64 0, .int .i64 0, .int .i64 0, .int .i64 0, .int .i64 0, .int .i64 0, .int .i64 0, .int .i64 0, .int .i64 0, .int .i64 0, .int .i64 0, .int .i64 0, .int .i64 0, .int .i64 0, .int .i64 0, .int .i64 0, .int .i64 0, .int .i64 0, .int .i64 0, .int .i64 0, .int .i64 0, .int .i64 0, .int .i64 0, .int .i64 0, .int .i64 0, .int .i64 0, .int .i64 0, .int .i64 0, .int .i64 0, .int .i64 0, .int .i64 0, .int .i64 0, .int .i64 0, .int .i64 0, .slice none 0 0, .bool false] := by
  apply Array.ext'
  rw [finC_list, dC_zero]
  rfl
theorem full_upd (k : Nat) : updN (fullD k) k 14 = fullD (k + 1) := by
  funext j
  unfold updN fullD
  by_cases h : j = k
  · subst h; simp
  · rw [if_neg h]
    by_cases h2 : j < k
    · rw [if_pos h2, if_pos (by omega)]
    · rw [if_neg h2, if_neg (by omega)]
theorem attLs_succ (k : Nat) (l : List (Int × Int)) : attLs (k + 1) l = attLs k l ++ [attackersL l (k : Int)] := by unfold attLs; rw [List.range_succ, List.map_append]; rfl

/-- while the attackers are laid into the finder -/
structure CoS (w : World) (f n : Nat) (l : List (Int × Int)) (A : Option Addr) (c : Nat) (D : Nat → Nat) (v : Value) (wr : World) : Prop where
  fin : Fnd wr f n v D (.slice none 0 0) false
  c0 : wr.cell? ⟨w.heap.size, 0, none⟩ = some (.int .i64 (n : Int))
  c1 : wr.cell? ⟨w.heap.size, 1, none⟩ = some (.slice A l.length c)
  hb : Below w.heap.size w wr
  hg : w.heap.size < f
namespace CoS
variable {w wr w' : World} {f n c : Nat} {l : List (Int × Int)} {A : Option Addr} {D : Nat → Nat} {v : Value}
theorem lt (h : CoS w f n l A c D v wr) : f < wr.heap.size := Blk.lt h.fin
theorem below (h : CoS w f n l A c D v wr) (hb : Below wr.heap.size wr w') : CoS w f n l A c D v w' :=
  ⟨Blk.below h.fin hb h.lt, (hb.cell (lt_of_cell h.c0)).trans h.c0, (hb.cell (lt_of_cell h.c1)).trans h.c1, endB h.hb hb, h.hg⟩
theorem own (h : CoS w f n l A c D v wr) {u : Value} {B : Nat} {xs : List Value} (ho : OwnS wr B u xs) (hB : f < B) (hg : wr.grownBy w' u.ownBlock) : CoS w f n l A c D v w' := by
  have hne : ∀ g, g < B → some g ≠ u.ownBlock := fun g hlt e => by have := (World.ownsRow.lt ho g e.symm).1; omega
  have hgf := h.hg
  refine ⟨Blk.grown h.fin hg (hne f hB), hg.cell h.c0 (hne _ (by simp; omega)), hg.cell h.c1 (hne _ (by simp; omega)), ?_, h.hg⟩
  exact ⟨hg.os.trans h.hb.os, hg.tape.trans h.hb.tape, hg.output.trans h.hb.output, Nat.le_trans h.hb.size hg.size, fun k hk => (hg.block k (Nat.lt_of_lt_of_le hk h.hb.size) (hne k (by omega))).trans (h.hb.block k hk)⟩
theorem far (h : CoS w f n l A c D v wr) {D' : Nat → Nat} {v' : Value} (hF : Fnd w' f n v' D' (.slice none 0 0) false) (hg : wr.grownBy w' (some f)) : CoS w f n l A c D' v' w' := by
  have hgf := h.hg
  refine ⟨hF, hg.cell h.c0 (by simp; omega), hg.cell h.c1 (by simp; omega), ?_, h.hg⟩
  exact ⟨hg.os.trans h.hb.os, hg.tape.trans h.hb.tape, hg.output.trans h.hb.output, Nat.le_trans h.hb.size hg.size, fun k hk => (hg.block k (Nat.lt_of_lt_of_le hk h.hb.size) (by simp; omega)).trans (h.hb.block k hk)⟩
end CoS
theorem attLs_zero (l : List (Int × Int)) : attLs 0 l = [] := rfl

set_option maxRecDepth 100000 in
set_option maxHeartbeats 8000000 in
theorem complete_any (A : Option Addr) (N : Int) (l : List (Int × Int)) (c : Nat) (w : World) (hr : RP w A l) (hlen : l.length ≤ 100000) (hT : Tab w) :
    Calls Tryz.prog 53 #[.agg #[.int .i64 N, .slice A l.length c]] w (RetLE (compR N l) w) := by
  go_enter Tryz.func53, Tryz.ntmps53
  go_wp2_with fail
  obtain ⟨W0, hW, c0, c1, hb0, hlt0⟩ := boxed w 24 (.int .i64 N) (.slice A l.length c)
  rw [hW]
  clear hW
  refine (gValidate_any A N l c W0 (hr.below hb0) hlen).mono ?_
  rintro e w1 ⟨rfl, hb1⟩
  have hb01 := endB hb0 hb1
  by_cases hv : valE N l = 0
  case neg =>
    have hvb : (valE N l != 0) = true := by rw [bne_iff_ne]; exact hv
    have H := Lib.hid (compR_bad hv)
    clear hv
    go_wp2_with fail
    go_ret2
    rw [H.out]
    exact ⟨none, 0, rfl, RSo.nil _ _, fun _ => ⟨rfl, rfl⟩, hb01⟩
  case pos =>
  obtain ⟨n, rfl, hvl⟩ := vld_of_valE hv hlen
  have hvb : (valE n l != 0) = false := by rw [hv]; rfl
  have Hr := Lib.hid (compR_ok hv)
  clear hv
  have hn := hvl.1.1
  have d0 := (hb1.cell (lt_of_cell c0)).trans c0
  have d1 := (hb1.cell (lt_of_cell c1)).trans c1
  have hr1 := hr.below hb01
  have hT1 := hT.below hb01
  have hg1 : w.heap.size < w1.heap.size := Nat.lt_of_lt_of_le hlt0 hb1.size
  clear c0 c1
  go_upto_region 5 with fail
  obtain ⟨W2, hW2, hF0, hb2, hs2⟩ : ∃ W2, w1.alloc (.cells #[.int .i64 (n : Int), .slice none 0 0, .int .i64 0, .int .i64 0, .int .i64 0, .int .i64 0, .int .i64 0, .int .i64 0, .int .i64 0, .int .i64 0, .int .i64 0, .int .i64 0, .int .i64 0, .int .i64 0, .int .i64 0, .int .i64 0, .int .i64 0, .int .i64 0, .int .i64 0, .int .i64 0, .int .i64 0, .int .i64 0, .int .i64 0, .int .i64 0, .int .i64 0, .int .i64 0, .int .i64 0, .int .i64 0, .int .i64 0, .int .i64 0, .int .i64 0, .int .i64 0, .int .i64 0, .int .i64 0, .int .i64 0, .int .i64 0, .int .i64 0, .int .i64 0, .int .i64 0, .int .i64 0, .int .i64 0, .int .i64 0, .slice none 0 0, .bool false] 84) = W2 ∧ Fnd W2 w1.heap.size n (.slice none 0 0) (fullD 0) (.slice none 0 0) false ∧ Below w1.heap.size w1 W2 ∧ W2.heap.size = w1.heap.size + 1 := ⟨_, rfl, by unfold Fnd; rw [finC_zero]; exact Blk.new _ _ _, newB _ _, by simp⟩
  rw [hW2]
  clear hW2
  have e0 := (hb2.cell (lt_of_cell d0)).trans d0
  have e1 := (hb2.cell (lt_of_cell d1)).trans d1
  have hb02 := endB hb01 hb2
  have hT2 := hT1.below hb2
  generalize w1.heap.size = f at *
  go_wp2_with fail
  have hst0 : CoS w f n l A c (fullD 0) (.slice none 0 0) W2 := ⟨hF0, e0, e1, hb02, hg1⟩
  clear hF0 e0 e1 hb2 d0 d1 hr1 hT1 hb0 hb1 hb01 hb02 hT2 hlt0
  go_loopw [18] (fun j wr => ∃ (k : Nat) (v : Value) (xs : List Value), k ≤ n ∧ j = .int .i64 k ∧ CoS w f n l A c (fullD k) v wr ∧ Fou wr (f + 1) v xs (attLs k l)) (fun j _ => n - (intOf j).toNat)
  case atStart => exact ⟨0, .slice none 0 0, [], Nat.zero_le _, rfl, hst0, ⟨OwnS.nil _ _, by rw [attLs_zero]; exact OwnL.nil _ _⟩⟩
  case round =>
    obtain ⟨k, v, xs, hk, rfl, hst, hfo⟩ := hrel
    clear hst0
    by_cases hkn : k < n
    case pos =>
      have hk40 : k < 40 := by omega
      have hk40' : (k : Int) < 40 := by omega
      have hk0' : (0 : Int) ≤ (k : Int) := by omega
      have hxl : xs.length ≤ 1000000 := by rw [hfo.len, attLs_length]; omega
      have hkn' : (k : Int) < (n : Int) := by omega
      have Hst := Lib.hid hst; have Hfo := Lib.hid hfo
      clear hst hfo
      obtain ⟨L, hL⟩ : ∃ L, attackersL l (k : Int) = L := ⟨_, rfl⟩
      have HL := Lib.hid hL
      go_wp2_with fail
      refine wp_region_textZ [7, 8, 9, 12] (fun w' => CoS w f n l A c (fullD k) v w') (fun w' => Fou w' (f + 1) v xs (attLs k l)) (by kernel_rfl) (by kernel_rfl) (by kernel_rfl) (by kernel_rfl) (Hst.out.below (Below.refl _ _).drew) (Hfo.out.below (Below.refl _ _).drew) ?_
      repeat (first
        | (refine TxtZL.skip (by rfl) ?_; simp only [Act.put, List.setIfInBounds_toArray, List.set_cons_zero, List.set_cons_succ])
        | (refine TxtZL.take (by rfl) (by rfl) ?_; apply Exists.intro; refine ⟨fun w1 hS1 => ?_, ?_⟩; (focus ((have g1 := hS1.fin.c1); (have g2 := hS1.c0); (have g3 := hS1.c1); go_simp; with_reducible rfl)); simp only [Act.put, List.setIfInBounds_toArray, List.set_cons_zero, List.set_cons_succ])
        | (refine TxtZL.takeE' (by rfl) (by rfl) ?_; apply Exists.intro; refine ⟨fun w1 hS1 => ?_, ?_⟩; (focus ((have g1 := hS1.fin.c1); (have g2 := hS1.c0); (have g3 := hS1.c1); go_simp; with_reducible rfl)); simp only [Act.put, List.setIfInBounds_toArray, List.set_cons_zero, List.set_cons_succ]))
      refine TxtZL.call (f := 72) (args := #[.agg #[.int .i64 (n : Int), .slice A l.length c], .int .i64 (k : Int)]) (fun u => ∃ A' c', u = Value.slice A' L.length c') (fun u w' => Fou w' (f + 1) v xs (attLs k l) ∧ OwnI w' (f + 1) u L) (by rfl) (by rfl) ⟨_, none, 0, rfl⟩ (fun w1 hS1 hJ1 => by go_simp) (fun w1 hS1 hJ1 => ?_) ?_
      · refine (gAttackers_any A n l c k w1 (hr.below hS1.hb) hvl (hT.below hS1.hb)).mono ?_
        rintro e w' ⟨A', c', rfl, ho, _, _, hb⟩
        rw [HL.out] at ho ⊢
        exact ⟨_, rfl, hS1.below hb, ⟨A', c', rfl⟩, hJ1.below hb, OwnI.mono ho hS1.lt⟩
      rintro v28 ⟨A3, c3, rfl⟩
      simp only [Act.put, List.setIfInBounds_toArray, List.set_cons_zero, List.set_cons_succ]
      repeat (first
        | (refine TxtZL.skip (by rfl) ?_; simp only [Act.put, List.setIfInBounds_toArray, List.set_cons_zero, List.set_cons_succ])
        | (refine TxtZL.take (by rfl) (by rfl) ?_; apply Exists.intro; refine ⟨fun w1 hS1 => ?_, ?_⟩; (focus ((have g1 := hS1.fin.c1); (have g2 := hS1.c0); (have g3 := hS1.c1); go_simp; with_reducible rfl)); simp only [Act.put, List.setIfInBounds_toArray, List.set_cons_zero, List.set_cons_succ])
        | (refine TxtZL.takeE' (by rfl) (by rfl) ?_; apply Exists.intro; refine ⟨fun w1 hS1 => ?_, ?_⟩; (focus ((have g1 := hS1.fin.c1); (have g2 := hS1.c0); (have g3 := hS1.c1); go_simp; with_reducible rfl)); simp only [Act.put, List.setIfInBounds_toArray, List.set_cons_zero, List.set_cons_succ]))
      refine TxtZL.value (fun u => ∃ q, u = Value.slice (some ⟨q, 0, none⟩) 1 1) (fun u w' => ∃ X, w' = X.alloc (.cells #[.slice A3 L.length c3] 26) ∧ u = Value.slice (some ⟨X.heap.size, 0, none⟩) 1 1 ∧ Fou X (f + 1) v xs (attLs k l) ∧ OwnI X (f + 1) (.slice A3 L.length c3) L ∧ CoS w f n l A c (fullD k) v X) (by rfl) (by rfl) ⟨_, 0, rfl⟩ (fun w1 hS1 hJ1 => ?_) ?_
      · exact ⟨.slice (some ⟨w1.heap.size, 0, none⟩) 1 1, w1.alloc (.cells #[.slice A3 L.length c3] 26), by go_simp, hS1.below (newB _ _), ⟨_, rfl⟩, w1, rfl, rfl, hJ1.1, hJ1.2, hS1⟩
      rintro v29 ⟨q29, rfl⟩
      simp only [Act.put, List.setIfInBounds_toArray, List.set_cons_zero, List.set_cons_succ]
      refine TxtZL.eff (fun u => ∃ A' c', u = Value.slice A' (k + 1) c') (fun u w' => Fou w' (f + 1) u (xs ++ [.slice A3 L.length c3]) (attLs (k + 1) l)) (by rfl) (by rfl) ⟨_, none, 0, rfl⟩ (fun w1 hS1 hJ1 => ?_) ?_
      · obtain ⟨X, rfl, hq, hX, hIX, hSX⟩ := hJ1
        injection hq with hq; injection hq with hq; injection hq with hq _ _; subst hq
        refine Eff.of_list (ops := #[]) (by rfl) ?_
        refine wpList_appS2 (by rfl) _ _ (by rfl) X (f + 1) _ xs _ _ _ hX.s (by rfl) (by rfl) rfl hxl hSX.lt ?_
        intro v' w' ho hb hg hled
        have hol : OwnL w' (f + 1) (xs ++ [.slice A3 L.length c3]) (attLs (k + 1) l) := by
          rw [attLs_succ, HL.out]
          exact (hX.l.append hX.s hg).snoc (World.ownsRow.kept hIX hg (hIX.apart hX.s))
        obtain ⟨A', c', e', _⟩ := OwnS.forms ho hol
        rw [attLs_length] at e'
        exact ⟨rfl, v', rfl, hSX.own hX.s (Nat.lt_succ_self _) hg, ⟨A', c', e'⟩, ho, hol⟩
      rintro v30 ⟨A4, c4, rfl⟩
      simp only [Act.put, List.setIfInBounds_toArray, List.set_cons_zero, List.set_cons_succ]
      repeat (first
        | (refine TxtZL.skip (by rfl) ?_; simp only [Act.put, List.setIfInBounds_toArray, List.set_cons_zero, List.set_cons_succ])
        | (refine TxtZL.take (by rfl) (by rfl) ?_; apply Exists.intro; refine ⟨fun w1 hS1 => ?_, ?_⟩; (focus ((have g1 := hS1.fin.c1); (have g2 := hS1.c0); (have g3 := hS1.c1); go_simp; with_reducible rfl)); simp only [Act.put, List.setIfInBounds_toArray, List.set_cons_zero, List.set_cons_succ])
        | (refine TxtZL.takeE' (by rfl) (by rfl) ?_; apply Exists.intro; refine ⟨fun w1 hS1 => ?_, ?_⟩; (focus ((have g1 := hS1.fin.c1); (have g2 := hS1.c0); (have g3 := hS1.c1); go_simp; with_reducible rfl)); simp only [Act.put, List.setIfInBounds_toArray, List.set_cons_zero, List.set_cons_succ]))
      refine TxtZL.last (fun w' => CoS w f n l A c (fullD k) (.slice A4 (k + 1) c4) w' ∧ Fou w' (f + 1) (.slice A4 (k + 1) c4) (xs ++ [.slice A3 L.length c3]) (attLs (k + 1) l)) (by rfl) (by rfl) (fun w1 hS1 hJ1 => ?_) ?_
      · have g1 := hS1.fin.c1
        have z1 := hS1.fin.frozen 1
        exact Eff.skip (w' := w1.setCell ⟨f, 1, none⟩ (.slice A4 (k + 1) c4)) (by go_simp) ⟨hS1.far (hS1.fin.put1 _) (grownBy_setCell _ _ _ _), hJ1.kept (grownBy_setCell _ _ _ _) (Nat.lt_succ_self _)⟩
      rintro v0 w1 ⟨hE1, hE2⟩
      have hcd := hE1.fin.at_ hk40
      have hzd := hE1.fin.frozen (2 + k)
      have HE1 := Lib.hid hE1; have HE2 := Lib.hid hE2
      clear hE1 hE2 hL
      go_wp2_with fail
      go_roundw
      case rel =>
        refine ⟨k + 1, _, _, by omega, by go_num, HE1.out.far ?_ (grownBy_setCell _ _ _ _), HE2.out.kept (grownBy_setCell _ _ _ _) (Nat.lt_succ_self _)⟩
        have := HE1.out.fin.put hk40 14
        rw [full_upd] at this
        exact this
      case measure => simp [intOf]; omega
    case neg =>
    obtain rfl : k = n := by omega
    obtain ⟨AT, cA, rfl, hatt⟩ := att_of_own hfo.s hfo.l (Nat.lt_succ_self f)
    rw [attLs_length] at hst hfo
    have hfst : FSt wr f k wr.heap.size l AT cA (fullD k) (.slice none 0 0) (decide (([] : List (List Int)).length = 201)) := ⟨hst.fin, hatt, subD.refl _, hvl.1, Nat.le_refl _, hst.lt⟩
    have hff := find_any f k wr.heap.size l AT cA _ (fullD k) (.slice none 0 0) [] [] wr (Nat.le_refl _) hfst (by simp) ⟨OwnS.nil _ _, OwnL.nil _ _⟩
    have Hff := Lib.hid hff; have Hst := Lib.hid hst
    clear hff hfst hatt hfo hst
    go_wp2_with fail
    refine Hff.out.mono ?_
    rintro e w1 ⟨rfl, D', v', xs', hF, hs, hl, hfr, hled⟩
    rw [sol_full] at hF hl
    have hbw : Below w.heap.size w w1 := by
      have h1 := Hst.out.hb; have h2 := Hst.out.hg
      exact ⟨hfr.os.trans h1.os, hfr.tape.trans h1.tape, hfr.output.trans h1.output, Nat.le_trans h1.size hfr.size, fun g hg => (hfr.block g (Nat.lt_of_lt_of_le hg h1.size) (by omega) (by simp [Value.ownBlock])).trans (h1.block g hg)⟩
    have c43 := hF.c43
    have c42 := hF.c42
    have Hbw := Lib.hid hbw
    clear hfr hled hbw hF
    by_cases hlim : 200 < (compL k l).length
    · have hd : decide ((capL 201 [] (compL k l)).length = 201) = true := by unfold capL; rw [decide_eq_true_iff, List.nil_append, List.length_take]; omega
      rw [hd] at c43
      have Hc := Lib.hid (show compR k l = ([], 2) by rw [Hr.out, if_pos hlim])
      clear hlim hd hl hs c42
      go_wp2_with fail
      go_ret2
      rw [Hc.out]
      exact ⟨none, 0, rfl, RSo.nil _ _, fun _ => ⟨rfl, rfl⟩, Hbw.out⟩
    · have hcap : capL 201 [] (compL k l) = compL k l := by unfold capL; rw [List.nil_append, List.take_of_length_le (by omega)]
      have hd : decide ((compL k l).length = 201) = false := by rw [decide_eq_false_iff_not]; omega
      rw [hcap, hd] at c43
      rw [hcap] at hl
      have Hc := Lib.hid (show compR k l = (compL k l, 0) by rw [Hr.out, if_neg hlim])
      obtain ⟨A', c', rfl, hrs, hnil⟩ := OwnS.forms2 hs hl
      have Hrs := Lib.hid hrs; have Hnil := Lib.hid hnil
      clear hlim hd hl hs hcap hrs hnil
      go_wp2_with fail
      go_ret2
      rw [Hc.out]
      exact ⟨A', c', rfl, Hrs.out, Hnil.out, Hbw.out⟩
end Go.Proofs.YtcpombepajapjaaGreatDoor
