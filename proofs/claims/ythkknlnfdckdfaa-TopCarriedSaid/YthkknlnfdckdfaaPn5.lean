/- Package participant: Full. -/
import Derived.Test.YthkknlnfdckdfaaPn4
namespace Go.Proofs.Ythkknlnfdckdfaa
open Go.ChangeShapes Go.WideShapes Go.ChangeAt Go.RowKit

theorem run_index_a (P1 P2 : Option Addr) (k1 c1 k2 c2 : Nat) (s1 s2 : Int) (w : World) : (Instr.index 78 (.agg #[.slice P1 k1 c1, .slice none 0 0, .slice none 0 0, .int .i64 s1, .slice P2 k2 c2, .slice none 0 0, .slice none 0 0, .int .i64 s2]) (.int .i64 0)).run Try.prog w = .ok (.agg #[.slice P1 k1 c1, .slice none 0 0, .slice none 0 0, .int .i64 s1]) w := by
  unfold Instr.index
  go_simp
theorem run_index_b (P1 P2 : Option Addr) (k1 c1 k2 c2 : Nat) (s1 s2 : Int) (w : World) : (Instr.index 78 (.agg #[.slice P1 k1 c1, .slice none 0 0, .slice none 0 0, .int .i64 s1, .slice P2 k2 c2, .slice none 0 0, .slice none 0 0, .int .i64 s2]) (.int .i64 1)).run Try.prog w = .ok (.agg #[.slice P2 k2 c2, .slice none 0 0, .slice none 0 0, .int .i64 s2]) w := by
  unfold Instr.index
  go_simp
/-- the nodes of a graph -/
def allI (n : Nat) : List Int := lst n fun i => (i : Int)
theorem allI_len (n : Nat) : (allI n).length = n := lst_length ..
theorem allI_asc (n : Nat) : AscP n (allI n) := fun i hi => by
  rw [allI_len] at hi
  have e : ∀ j, j < n → (allI n).getD j 0 = (j : Int) := fun j hj => lst_getD hj
  rw [e i hi]
  refine ⟨by omega, by omega, fun h0 => ?_⟩
  rw [e (i - 1) (by omega)]; omega
theorem allI_snoc (k : Nat) : allI (k + 1) = allI k ++ [(k : Int)] := by
  unfold allI lst
  rw [List.range_succ, List.map_append]; rfl
/-- the call returns the player that knows all nodes -/
def RetFu (n : Nat) (sty : Int) (w : World) : Ending → World → Prop := fun e w' => ∃ P pc, e = .returned (.agg #[.slice P (allI n).length pc, .slice none 0 0, .slice none 0 0, .int .i64 sty]) ∧ OwnI w' w.heap.size (.slice P (allI n).length pc) (allI n) ∧ Below w.heap.size w w'
set_option maxRecDepth 100000 in
set_option maxHeartbeats 2000000 in
theorem full_any (A : Option Addr) (n : Nat) (l : List (Int × Int)) (c : Nat) (sty : Int) (w : World) (hp : RP w A l) (hv : Vld n l) :
    Calls Try.prog 10 #[.agg #[.int .i64 (n : Int), .slice A l.length c], .int .i64 sty] w (RetFu n sty w) := by
  have hn := hv.1.1; have hll := hv.1.2.1
  have hvE := hv.valE
  go_enter Try.func10, Try.ntmps10
  go_upto_region 1 with fail
  obtain ⟨W0, hW, k0, k1, hb0, hs0⟩ := boxed2A w 28 41 #[.int .i64 (n : Int), .slice A l.length c] #[.slice none 0 0, .slice none 0 0, .slice none 0 0, .int .i64 0]
  rw [hW]
  obtain ⟨z0, z1, _, _⟩ := k0.two
  have hp0 := hp.below hb0
  clear hW hp
  go_wp2_with fail
  refine (gValidate_any A n l c W0 hp0 hll).mono ?_
  rintro e w1 ⟨rfl, hb1⟩
  rw [hvE]
  have z0 := (hb1.cell (lt_of_cell z0)).trans z0
  have k1 := k1.below hb1 (by omega)
  have hbb := hb0.trans (hb1.mono hb0.size)
  have hs1 := hb1.size
  clear hb0 hb1 k0 z1 hvE hp0
  go_upto_region 4 with fail
  obtain ⟨w2, hw2, k2, hb2, hs2⟩ := boxedA w1 41 #[.slice none 0 0, .slice none 0 0, .slice none 0 0, .int .i64 sty]
  rw [hw2]
  have z0 := (hb2.cell (lt_of_cell z0)).trans z0
  have K1 := Lib.hid k1
  have hg1 := k1.lt
  have Hbb := Lib.hid hbb
  have hg5 : w1.heap.size < w2.heap.size := by omega
  have hb20 : Below w1.heap.size w1 w2 := hb2
  have Hw := Lib.hid (show w.heap.size ≤ w1.heap.size by omega)
  clear hw2 hb2 k1 hbb hs0 hs1
  generalize hg : w1.heap.size = g5 at *
  have Hg := Lib.hid hg
  clear hg
  go_wp2_with fail
  go_loopw [15] (fun t wr => ∃ (k : Nat) (P : Option Addr) (pc : Nat), k ≤ n ∧ t = .int .i64 k ∧ Blk wr g5 41 #[.slice P k pc, .slice none 0 0, .slice none 0 0, .int .i64 sty] ∧ OwnI wr w2.heap.size (.slice P k pc) (allI k) ∧ w2.heap.size ≤ wr.heap.size ∧ Below g5 w1 wr) (fun t _ => n - (intOf t).toNat)
  case atStart => exact ⟨0, none, 0, Nat.zero_le _, rfl, k2, OwnI.nil _ _, Nat.le_refl _, hb20⟩
  case round =>
    clear k2 hb20
    obtain ⟨k, P, pc, hk, rfl, hblk, hown, hsz, hbl⟩ := hrel
    obtain ⟨y0, y1, y2, y3, f0, f1, f2, f3⟩ := mvC hblk
    by_cases hlt : k < n
    case neg =>
      obtain rfl : k = n := by omega
      have hkt := K1.out.below hbl hg1
      obtain ⟨q0, q1, q2, q3, e0, e1, e2, e3⟩ := mvC hkt
      have Hkt := Lib.hid hkt; have Hown := Lib.hid hown
      have Hbl := Lib.hid (Hbb.out.trans (hbl.mono Hw.out))
      have hws := Hw.out
      clear hkt hown hbl hblk
      go_wp2_with fail
      have hk4 := set4 Hkt.out (.slice P k pc) (.slice none 0 0) (.slice none 0 0) (.int .i64 sty)
      obtain ⟨r0, r1, r2, r3, _, _, _, _⟩ := mvC hk4
      refine bodyPost_ret (v := .agg #[.slice P k pc, .slice none 0 0, .slice none 0 0, .int .i64 sty]) (by simp [results, Try.results10, go_sem, r0, r1, r2, r3]) rfl ?_
      have hlt1 : w.heap.size + 1 < w2.heap.size := by omega
      have hlk := allI_len k
      exact ⟨P, pc, by rw [hlk], by rw [hlk]; exact ownsRow_mono (own_far (own_far (own_far (own_far Hown.out hlt1 0 _) hlt1 1 _) hlt1 2 _) hlt1 3 _) (by omega), below_set4 Hbl.out (by omega) _ _ _ _⟩
    case pos =>
    have hkn : (k : Int) < (n : Int) := by omega
    have hl : (allI k).length ≤ 1000000 := by rw [allI_len]; omega
    have Hln := Lib.hid (show (allI k ++ [(k : Int)]).length = k + 1 by rw [List.length_append, allI_len]; rfl)
    have Hown := Lib.hid hown
    have Hsn := Lib.hid (allI_snoc k)
    have Hbk := Lib.hid hblk
    have Hbl := Lib.hid hbl
    have Hl := Lib.hid hl
    clear hown hblk hbl hl
    go_wp2_with (at_builtin; refine wpList_appI (by rfl) _ _ (by rfl) wr w2.heap.size _ _ (k : Int) Hown.out (by rfl) (by rfl) Hl.out hsz ?_; intro v' w4 hown' hb4 hg4; (obtain ⟨A', c', e', _, _⟩ := OwnI.form hown'); rw [Hln.out] at e'; subst e'; have y0 := (hb4.cell (p := ⟨g5, 0, none⟩) hg5).trans y0; have f0 := (Hbk.out.below hb4 hg5).frozen 0; have Hb4 := Lib.hid hb4; have Hown' := Lib.hid hown'; clear hb4 hg4 hown')
    go_roundw
    case rel => exact ⟨k + 1, A', c', by omega, by go_num, (Hbk.out.below Hb4.out hg5).set_ 0 _, by rw [Hsn.out]; exact own_far Hown'.out hg5 0 _, by have := Hb4.out.size; simp; omega, Below.setCell (p := ⟨g5, 0, none⟩) (Hbl.out.trans (Hb4.out.mono (by omega))) (Nat.le_refl _) _⟩
    case measure => simp [intOf]; omega
end Go.Proofs.Ythkknlnfdckdfaa
