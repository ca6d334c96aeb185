import Derived.Test.YthkknlnfdckdfaaGreatDoorRwM
import Derived.Test.YthkknlnfdckdfaaGreatDoorRwB
import Derived.Test.YthkknlnfdckdfaaGreatDoorGnd
import Derived.Test.YthkknlnfdckdfaaGreatDoorTx3
import Derived.Test.YthkknlnfdckdfaaGreatDoorTxtZ
/- Package protocol: the other player, what attacks, the status of the moves; slices.Index and Contains at moves. -/
namespace Go.Proofs.YthkknlnfdckdfaaGreatDoor
open Go.ChangeShapes Go.WideShapes Go.ChangeAt Go.RowKit

theorem RM.at_ {w : World} {A : Option Addr} {ms : List Mv} (h : RM w A ms) {k : Nat} (hk : k < ms.length) : ∃ b o, A = some ⟨b, o, none⟩ ∧ w.cell? ⟨b, o + k * 4, none⟩ = some (.int .i64 (mv ms k).1) ∧ w.cell? ⟨b, o + k * 4 + 1, none⟩ = some (.int .i64 (mv ms k).2.1) ∧ w.cell? ⟨b, o + k * 4 + 2, none⟩ = some (.int .i64 (mv ms k).2.2.1) ∧ w.cell? ⟨b, o + k * 4 + 3, none⟩ = some (.int .i64 (mv ms k).2.2.2) := h k hk
theorem boxedA (w : World) (t : TypeId) (cs : Array Value) : ∃ W0, w.alloc (.cells cs t) = W0 ∧ Blk W0 w.heap.size t cs ∧ Below w.heap.size w W0 ∧ W0.heap.size = w.heap.size + 1 :=
  ⟨_, rfl, Blk.new _ _ _, newB w _, by simp⟩
theorem boxedRR (w : World) (t u v : TypeId) (cs : Array Value) (x y : Value) (n : Nat) : ∃ W0, ((w.alloc (.cells cs t)).alloc (.cells (madeCells #[x] n) u)).alloc (.cells (madeCells #[y] n) v) = W0 ∧ Blk W0 w.heap.size t cs ∧ W0.rowIs (w.heap.size + 1) u n (fun _ => x) ∧ W0.rowIs (w.heap.size + 2) v n (fun _ => y) ∧ Below w.heap.size w W0 ∧ W0.heap.size = w.heap.size + 3 := by
  have h1 := World.rowIs_made (w.alloc (.cells cs t)) x n u
  have h2 := World.rowIs_made ((w.alloc (.cells cs t)).alloc (.cells (madeCells #[x] n) u)) y n v
  refine ⟨_, rfl, ((Blk.new w t _).alloc _).alloc _, ?_, ?_, (((Below.refl _ _).alloc (Nat.le_refl _) _).alloc (by simp) _).alloc (by simp; omega) _, by simp⟩
  · have := rowIs_new h1 (newB _ (.cells (madeCells #[y] n) v))
    simpa using this
  · simpa using h2
theorem other_any (x : Int) (w : World) (h1 : x = 1 ∨ x = 2) : Calls Tryz.prog 66 #[.int .i64 x] w (Ret (.int .i64 (3 - x)) w) := by
  go_enter Tryz.func66, Tryz.ntmps66
  rcases h1 with rfl | rfl
  · go_wp2_with fail
    go_ret
    exact ⟨rfl, rfl⟩
  · go_wp2_with fail
    go_ret
    exact ⟨rfl, rfl⟩
set_option maxRecDepth 100000 in
theorem attacks_any (A : Option Addr) (ms : List Mv) (c k : Nat) (w : World) (hr : RM w A ms) (hk : k < ms.length) (hm : OkM ms) :
    Calls Tryz.prog 110 #[.slice A ms.length c, .int .i64 (k : Int)] w (Ret (.bool ((mv ms k).2.1 == 2)) w) := by
  obtain ⟨b, o, rfl, e0, e1, e2, e3⟩ := hr k hk
  have hk0 : (0 : Int) ≤ (k : Int) := by omega
  have hk1 : (k : Int) < (ms.length : Int) := by omega
  rcases Nat.eq_zero_or_pos k with h0 | h0
  · subst h0
    have hh := hm.head
    rw [hh] at e1 ⊢
    clear hr hm
    go_enter Tryz.func110, Tryz.ntmps110
    go_wp2_with fail
    go_ret
    exact ⟨rfl, rfl⟩
  · obtain ⟨ht, htk⟩ := hm.tg h0 hk
    rcases hm.k2 h0 hk with hh | hh
    · rw [hh] at e1 ⊢
      rw [ht] at e3
      have d1 : decide ((0 : Int) ≤ (tg ms k : Int)) = true := decide_eq_true (by omega)
      have d2 : decide ((tg ms k : Int) < (k : Int)) = true := decide_eq_true (by omega)
      generalize tg ms k = t at *
      clear hr hm
      go_enter Tryz.func110, Tryz.ntmps110
      go_wp2_with fail
      go_ret
      exact ⟨rfl, rfl⟩
    · rw [hh] at e1 ⊢
      clear hr hm
      go_enter Tryz.func110, Tryz.ntmps110
      go_wp2_with fail
      go_ret
      exact ⟨rfl, rfl⟩
def eqM (x y : Mv) : Bool := x.1 == y.1 && (x.2.1 == y.2.1 && (x.2.2.1 == y.2.2.1 && x.2.2.2 == y.2.2.2))
theorem eqM_iff {x y : Mv} : eqM x y = true ↔ x = y := by
  obtain ⟨a, b, c, d⟩ := x
  obtain ⟨a', b', c', d'⟩ := y
  unfold eqM
  simp [Prod.mk.injEq]
theorem in_mv {ms : List Mv} {x : Mv} : ms.contains x = true ↔ ∃ j, j < ms.length ∧ mv ms j = x := by
  rw [List.contains_iff_mem, List.mem_iff_getElem]
  constructor
  · rintro ⟨j, hj, e⟩; exact ⟨j, hj, by rw [mv_at hj]; exact e⟩
  · rintro ⟨j, hj, e⟩; exact ⟨j, hj, by rw [← mv_at hj]; exact e⟩
/-- the call returns the place of x, or a negative number -/
def RetIxM (b : Bool) (w : World) : Ending → World → Prop := fun e w' => ∃ r : Int, e = .returned (.int .i64 r) ∧ decide (0 ≤ r) = b ∧ Below w.heap.size w w'
set_option maxRecDepth 100000 in
set_option maxHeartbeats 1000000 in
theorem indexM_any (A : Option Addr) (ms : List Mv) (c : Nat) (x : Mv) (w : World) (hr : RM w A ms) (hl : ms.length ≤ 1000000) :
    Calls Tryz.prog 112 #[.slice A ms.length c, .agg #[.int .i64 x.1, .int .i64 x.2.1, .int .i64 x.2.2.1, .int .i64 x.2.2.2]] w (RetIxM (ms.contains x) w) := by
  have heq := fun y w => run_eqlM x.1 x.2.1 x.2.2.1 x.2.2.2 (mv ms y).1 (mv ms y).2.1 (mv ms y).2.2.1 (mv ms y).2.2.2 w
  go_enter Tryz.func112, Tryz.ntmps112
  go_upto_region 1 with fail
  obtain ⟨W0, hW, k0, hb0, hs0⟩ := boxedA w 89 #[.int .i64 x.1, .int .i64 x.2.1, .int .i64 x.2.2.1, .int .i64 x.2.2.2]
  rw [hW]
  clear hW
  have c0 : W0.cell? ⟨w.heap.size, 0, none⟩ = some (.int .i64 x.1) := k0.cell 0
  have c1 : W0.cell? ⟨w.heap.size, 1, none⟩ = some (.int .i64 x.2.1) := k0.cell 1
  have c2 : W0.cell? ⟨w.heap.size, 2, none⟩ = some (.int .i64 x.2.2.1) := k0.cell 2
  have c3 : W0.cell? ⟨w.heap.size, 3, none⟩ = some (.int .i64 x.2.2.2) := k0.cell 3
  have hr0 := hr.below hb0
  clear hr k0
  go_wp2_with fail
  go_loopw [8] (fun t wr => ∃ k : Nat, k ≤ ms.length ∧ t = .int .i64 k ∧ (∀ j, j < k → mv ms j ≠ x) ∧ Below W0.heap.size W0 wr) (fun t _ => ms.length - (intOf t).toNat)
  case atStart => exact ⟨0, Nat.zero_le _, rfl, fun j hj => absurd hj (by omega), Below.refl _ _⟩
  case round =>
    obtain ⟨k, hk, rfl, hno, hbl⟩ := hrel
    have Hno := Lib.hid hno; clear hno
    by_cases hlt : k < ms.length
    case neg =>
      have hf : ms.contains x = false := by
        cases hh : ms.contains x
        · rfl
        · obtain ⟨j, hj, e⟩ := in_mv.1 hh
          exact absurd e (Hno.out j (by omega))
      have Hf := Lib.hid hf; clear hf
      go_wp2_with fail
      go_ret
      exact ⟨_, rfl, by rw [Hf.out]; rfl, endB hb0 hbl⟩
    case pos =>
    obtain ⟨b, o, rfl, e0, e1, e2, e3⟩ := (hr0.below hbl) k hlt
    have d0 := (hbl.cell (lt_of_cell c0)).trans c0
    have d1 := (hbl.cell (lt_of_cell c1)).trans c1
    have d2 := (hbl.cell (lt_of_cell c2)).trans c2
    have d3 := (hbl.cell (lt_of_cell c3)).trans c3
    have hlt' : (k : Int) < (ms.length : Int) := by omega
    have heqk := fun w => heq k w
    clear heq
    cases hb : eqM x (mv ms k)
    · have hne : mv ms k ≠ x := fun e => by rw [eqM_iff.2 e.symm] at hb; cases hb
      have Hne := Lib.hid hne
      clear hne
      unfold eqM at hb
      rw [hb] at heqk
      clear hb
      go_wp2_with fail
      go_quiet (fail)
      go_wp2_with fail
      go_roundw
      case rel => exact ⟨k + 1, by omega, by go_num, (fun j hj => by
        by_cases e : j = k
        · rw [e]; exact Hne.out
        · exact Hno.out j (by omega)), below_drewN hbl _⟩
      case measure => simp [intOf]; omega
    · have hin : ms.contains x = true := in_mv.2 ⟨k, hlt, (eqM_iff.1 hb).symm⟩
      have Hin := Lib.hid hin
      clear hin
      unfold eqM at hb
      rw [hb] at heqk
      clear hb
      go_wp2_with fail
      go_quiet (fail)
      go_wp2_with fail
      go_ret
      exact ⟨_, rfl, by rw [Hin.out]; exact decide_eq_true (by omega), endB hb0 (below_drewN hbl _)⟩
set_option maxRecDepth 100000 in
theorem containsM_any (A : Option Addr) (ms : List Mv) (c : Nat) (x : Mv) (w : World) (hr : RM w A ms) (hl : ms.length ≤ 1000000) :
    Calls Tryz.prog 88 #[.slice A ms.length c, .agg #[.int .i64 x.1, .int .i64 x.2.1, .int .i64 x.2.2.1, .int .i64 x.2.2.2]] w (RetB (.bool (ms.contains x)) w) := by
  go_enter Tryz.func88, Tryz.ntmps88
  go_upto_region 1 with fail
  obtain ⟨W0, hW, k0, hb0, hs0⟩ := boxedA w 89 #[.int .i64 x.1, .int .i64 x.2.1, .int .i64 x.2.2.1, .int .i64 x.2.2.2]
  rw [hW]
  clear hW
  have c0 : W0.cell? ⟨w.heap.size, 0, none⟩ = some (.int .i64 x.1) := k0.cell 0
  have c1 : W0.cell? ⟨w.heap.size, 1, none⟩ = some (.int .i64 x.2.1) := k0.cell 1
  have c2 : W0.cell? ⟨w.heap.size, 2, none⟩ = some (.int .i64 x.2.2.1) := k0.cell 2
  have c3 : W0.cell? ⟨w.heap.size, 3, none⟩ = some (.int .i64 x.2.2.2) := k0.cell 3
  have hr0 := hr.below hb0
  clear hr k0
  go_wp2_with fail
  refine (indexM_any A ms c x W0 hr0 hl).mono ?_
  rintro e w1 ⟨r, rfl, hd, hb1⟩
  have Hd := Lib.hid hd; clear hd
  go_wp2_with fail
  go_ret
  exact ⟨rb Hd.out, endB hb0 hb1⟩
/-- the call returns the status of the moves, in a new slice -/
def RetSts (ms : List Mv) (w : World) : Ending → World → Prop := fun e w' => ∃ g, e = .returned (.slice (some ⟨g, 0, none⟩) ms.length ms.length) ∧ w.heap.size ≤ g ∧ Row w' g ms.length (stF ms) ∧ Below w.heap.size w w'
set_option maxRecDepth 100000 in
set_option maxHeartbeats 4000000 in
theorem status_any (N : Int) (A : Option Addr) (k c : Nat) (root l0 l1 : Int) (M : Option Addr) (ms : List Mv) (cm : Nat) (w : World) (hr : RM w M ms) (hm : OkM ms) (hl : ms.length ≤ 1000) :
    Calls Tryz.prog 85 #[.agg #[.int .i64 N, .slice A k c, .int .i64 root, .int .i64 l0, .int .i64 l1, .slice M ms.length cm]] w (RetSts ms w) := by
  have hmk1 := run_make_row' (P := Tryz.prog) 22 3 (.int .i64 0) 8 Tryz.underlying22 info_int rfl .i64 .i64 ms.length (by omega) (by omega)
  have hmk2 := run_make_row' (P := Tryz.prog) 118 4 (.bool false) 1 Tryz.underlying118 info_bool rfl .i64 .i64 ms.length (by omega) (by omega)
  have HM := Lib.hid hm
  have hpos := hm.pos
  clear hm
  go_enter Tryz.func85, Tryz.ntmps85
  go_upto_region 3 with fail
  obtain ⟨W0, hW, k0, hrow, hrb, hb0, hs0⟩ := boxedRR w 55 3 4 #[.int .i64 N, .slice A k c, .int .i64 root, .int .i64 l0, .int .i64 l1, .slice M ms.length cm] (.int .i64 0) (.bool false) ms.length
  rw [hW]
  clear hW hmk1 hmk2
  have c5 : W0.cell? ⟨w.heap.size, 5, none⟩ = some (.slice M ms.length cm) := k0.cell 5
  have hr0 := hr.below hb0
  have hrow0 : Row W0 (w.heap.size + 1) ms.length (fun _ => 0) := hrow
  have hrb0 : RowB W0 (w.heap.size + 2) ms.length (fun _ => false) := hrb
  clear k0 hrow hrb
  go_wp2_with fail
  -- no move is taken back
  go_loopw [20] (fun t wr => ∃ j : Nat, j ≤ ms.length ∧ t = .int .i64 j ∧ Below W0.heap.size W0 wr) (fun t _ => ms.length - (intOf t).toNat)
  case atStart => exact ⟨0, Nat.zero_le _, rfl, Below.refl _ _⟩
  case round =>
    obtain ⟨j, hj, rfl, hbl⟩ := hrel
    by_cases hlt : j < ms.length
    case pos =>
      obtain ⟨b, o, rfl, e0, e1, e2, e3⟩ := (hr0.below hbl) j hlt
      have hlt' : (j : Int) < (ms.length : Int) := by omega
      have h3 : ((mv ms j).2.1 == 3) = false := beq_eq_false_iff_ne.2 (HM.out.k3 hlt)
      go_wp2_with fail
      go_roundw
      case rel => exact ⟨j + 1, by omega, by go_num, hbl.alloc (by have := hbl.size; omega) _⟩
      case measure => simp [intOf]; omega
    case neg =>
    obtain rfl : j = ms.length := by omega
    have HrA : ∀ wx, Below (w.heap.size + 1) W0 wx → RM wx M ms := fun wx h => hr.below (hb0.trans (h.mono (by omega)))
    have HbA : ∀ wx, Below (w.heap.size + 1) W0 wx → Below w.heap.size w wx := fun wx h => hb0.trans (h.mono (by omega))
    have Hs2 := Lib.hid (show w.heap.size ≤ w.heap.size + 1 by omega)
    have hG0 : w.heap.size < w.heap.size + 1 := by omega
    have hG1 : w.heap.size + 1 < w.heap.size + 2 := by omega
    have hrow1 : Row wr (w.heap.size + 1) ms.length (fun _ => 0) := rowIs_below hrow0 hbl (by omega)
    have hrb1 : RowB wr (w.heap.size + 2) ms.length (fun _ => false) := rowIs_below hrb0 hbl (by omega)
    have hbl1 : Below (w.heap.size + 1) W0 wr := hbl.mono (by omega)
    have HrA' := Lib.hid HrA; have HbA' := Lib.hid HbA
    clear HrA HbA hr hb0 hrow0 hrb0 hbl hs0 hr0
    generalize hgR : w.heap.size + 2 = gR at *
    generalize hgS : w.heap.size + 1 = gS at *
    generalize hG : w.heap.size = G at *
    have HG := Lib.hid hG
    clear hgR hgS hG
    have c5w := (hbl1.cell (p := ⟨G, 5, none⟩) hG0).trans c5
    obtain ⟨wo, hwo⟩ : ∃ wo, wo = wr := ⟨_, rfl⟩
    subst hwo
    go_wp2_with fail
    go_loopw [47] (fun t wr => ∃ j : Nat, j ≤ ms.length ∧ t = .int .i64 j ∧ Row wr gS ms.length (fun i => if i < j then (if (mv ms i).2.1 = 4 then 0 else 1) else 0) ∧ RowB wr gR ms.length (fun _ => false) ∧ Below gS W0 wr) (fun t _ => ms.length - (intOf t).toNat)
    case atStart => exact ⟨0, Nat.zero_le _, rfl, hrow1.congr fun i _ => by simp, hrb1, hbl1⟩
    case round =>
      clear hrow1 hrb1 hbl1 c5w
      obtain ⟨j, hj, rfl, hrow, hrb, hbl⟩ := hrel
      have c5w := (hbl.cell (p := ⟨G, 5, none⟩) hG0).trans c5
      by_cases hlt : j < ms.length
      case pos =>
        have hlt' : (j : Int) < (ms.length : Int) := by omega
        have hj0' : (0 : Int) ≤ (j : Int) := by omega
        have fz := hrow.frozen j
        have cj := hrow.cell hlt
        have hset := hrow.set j 1
        have hbs := hbl.setCell (p := ⟨gS, j, none⟩) (Nat.le_refl _) (.int .i64 1)
        have hrbs : RowB (wr.setCell ⟨gS, j, none⟩ (.int .i64 1)) gR ms.length (fun _ => false) := World.rowIs.setOther hrb (by show gR ≠ gS; omega) _
        have Hset := Lib.hid hset; have Hbs := Lib.hid hbs; have Hrbs := Lib.hid hrbs
        clear hset hbs hrbs
        rcases Nat.eq_zero_or_pos j with h0 | h0
        · subst h0
          have H4 := Lib.hid (show (mv ms 0).2.1 ≠ 4 by rw [HM.out.head]; decide)
          clear hrow hrb
          go_wp2_with fail
          go_roundw
          case rel => exact ⟨1, by omega, by go_num, Hset.out.congr fun i _ => (by
            unfold upd
            by_cases e : i = 0
            · subst e; rw [if_pos rfl, if_pos (by omega), if_neg H4.out]
            · simp only [if_neg e]
              rw [if_neg (by omega), if_neg (by omega)]), Hrbs.out, Hbs.out⟩
          case measure => simp [intOf]; omega
        · have hj0 : ((j : Int) == 0) = false := beq_eq_false_iff_ne.2 (by omega)
          obtain ⟨ht, htk⟩ := HM.out.tg h0 hlt
          have hkt := HM.out.tk h0 hlt
          have catt := attacks_any M ms cm j wr (HrA'.out wr hbl) hlt HM.out
          obtain ⟨b, o, rfl, e0, e1, e2, e3⟩ := (HrA'.out wr hbl) j hlt
          rw [ht] at e3
          have ctg := hrow.cell (i := tg ms j) (by omega)
          rw [if_pos htk, if_neg hkt] at ctg
          have cr := hrb.cell hlt
          have ht0 : (0 : Int) ≤ (tg ms j : Int) := by omega
          have ht1 : (tg ms j : Int) < (ms.length : Int) := by omega
          have Hrow := Lib.hid hrow; have Hrb := Lib.hid hrb
          clear hrow hrb
          rcases HM.out.k2 h0 hlt with hh | hh
          · have H4 := Lib.hid (show (mv ms j).2.1 ≠ 4 by rw [hh]; decide)
            rw [hh] at e1 catt
            generalize tg ms j = t at *
            clear hh ht hkt
            go_wp2_with fail
            refine catt.mono ?_
            rintro e w3 ⟨rfl, rfl⟩
            go_wp2_with fail
            go_roundw
            case rel => exact ⟨j + 1, by omega, by go_num, Hset.out.congr fun i _ => (by
              unfold upd
              by_cases e : i = j
              · subst e; rw [if_pos rfl, if_pos (by omega), if_neg H4.out]
              · simp only [if_neg e]
                by_cases e2 : i < j
                · rw [if_pos e2, if_pos (show i < j + 1 by omega)]
                · rw [if_neg e2, if_neg (show ¬ i < j + 1 by omega)]), Hrbs.out, Hbs.out⟩
            case measure => simp [intOf]; omega
          · have H4 := Lib.hid hh
            rw [hh] at e1 catt
            generalize tg ms j = t at *
            clear hh ht hkt
            go_wp2_with fail
            refine catt.mono ?_
            rintro e w3 ⟨rfl, rfl⟩
            go_wp2_with fail
            go_roundw
            case rel => exact ⟨j + 1, by omega, by go_num, Hrow.out.congr fun i _ => (by
              by_cases e : i = j
              · subst e; rw [if_neg (Nat.lt_irrefl _), if_pos (Nat.lt_succ_self _), if_pos H4.out]
              · by_cases e2 : i < j
                · rw [if_pos e2, if_pos (show i < j + 1 by omega)]
                · rw [if_neg e2, if_neg (show ¬ i < j + 1 by omega)]), Hrb.out, hbl⟩
            case measure => simp [intOf]; omega
      case neg =>
      obtain rfl : j = ms.length := by omega
      have hrow1 : Row wr gS ms.length (stK ms (ms.length - 1)) := hrow.congr fun i hi => by rw [if_pos hi, stK_top (by omega)]
      have Hrb := Lib.hid hrb
      clear hrow hrb
      obtain ⟨wo, hwo⟩ : ∃ wo, wo = wr := ⟨_, rfl⟩
      subst hwo
      have hn1 : IntKind.i64.wrap ((ms.length : Int) - 1) = ((ms.length - 1 : Nat) : Int) := by rw [IntKind.wrap_i64]; omega
      go_wp2_with fail
      go_loopw [8] (fun t wr => ∃ j : Nat, j < ms.length ∧ t = .int .i64 j ∧ Row wr gS ms.length (stK ms j) ∧ Below gS W0 wr) (fun t _ => (intOf t).toNat)
      case atStart => exact ⟨ms.length - 1, by omega, by first | rfl | go_num, hrow1, hbl⟩
      case round =>
        clear hrow1 hbl c5w
        obtain ⟨j, hj, rfl, hrow, hbl⟩ := hrel
        have c5w := (hbl.cell (p := ⟨G, 5, none⟩) hG0).trans c5
        rcases Nat.eq_zero_or_pos j with h0 | h0
        · subst h0
          have hres : Row wr gS ms.length (stF ms) := hrow.congr fun i hi => stK_low (Nat.zero_le _) hi
          have Hres := Lib.hid hres; clear hrow hres
          go_wp2_with fail
          go_ret
          have hle := Hs2.out
          have hbf := HbA'.out wr hbl
          rw [← HG.out] at hle hbf
          exact ⟨gS, rfl, hle, Hres.out, hbf⟩
        · have hj0 : (0 : Int) < (j : Int) := by omega
          have hj1 : (j : Int) < (ms.length : Int) := by omega
          have hj2 : (0 : Int) ≤ (j : Int) := by omega
          have hw1 : IntKind.i64.wrap ((j : Int) - 1) = ((j - 1 : Nat) : Int) := by rw [IntKind.wrap_i64]; omega
          obtain ⟨ht, htk⟩ := HM.out.tg h0 hj
          have cj := hrow.cell hj
          rw [stK_low (Nat.le_refl _) hj] at cj
          have hstep := fun i => stK_step (i := i) HM.out h0 hj
          have ct := hrow.cell (i := tg ms j) (by omega)
          have ft := hrow.frozen (tg ms j)
          have hset := hrow.set (tg ms j) 2
          have hbs := hbl.setCell (p := ⟨gS, tg ms j, none⟩) (Nat.le_refl _) (.int .i64 2)
          have Hset := Lib.hid hset; have Hbs := Lib.hid hbs; have Hstep := Lib.hid hstep
          clear hset hbs hstep
          obtain ⟨b, o, rfl, e0, e1, e2, e3⟩ := (HrA'.out wr hbl) j hj
          rw [ht] at e3
          have ht0 : (0 : Int) ≤ (tg ms j : Int) := by omega
          have ht1 : (tg ms j : Int) < (ms.length : Int) := by omega
          have Hrow := Lib.hid hrow
          clear hrow
          by_cases hst : stF ms j = 1
          · have HT := Lib.hid hst
            rw [hst] at cj
            clear hst ht
            go_wp2_with fail
            go_roundw
            case rel => exact ⟨j - 1, by omega, by first | rfl | go_num, Hset.out.congr fun i _ => (by
              rw [Hstep.out i]
              unfold upd
              by_cases e : i = tg ms j
              · rw [if_pos e, if_pos ⟨HT.out, e⟩]
              · rw [if_neg e, if_neg (fun h => e h.2)]), Hbs.out⟩
            case measure => simp [intOf]; omega
          · have hsb : (stF ms j == 1) = false := beq_eq_false_iff_ne.2 hst
            have HT := Lib.hid hst
            clear hst ht
            go_wp2_with fail
            go_roundw
            case rel => exact ⟨j - 1, by omega, by first | rfl | go_num, Hrow.out.congr fun i _ => (by
              rw [Hstep.out i, if_neg (fun h => HT.out h.1)]), hbl⟩
            case measure => simp [intOf]; omega
end Go.Proofs.YthkknlnfdckdfaaGreatDoor

/- Package protocol: the table of a dialogue. (The region of three effects is printed by gen_of.py.) -/
namespace Go.Proofs.YthkknlnfdckdfaaGreatDoor
open Go.ChangeShapes Go.WideShapes Go.ChangeAt Go.RowKit

theorem dgC {w : World} {g : Nat} {t : TypeId} {x0 x1 x2 x3 x4 x5 : Value} (h : Blk w g t #[x0, x1, x2, x3, x4, x5]) : w.cell? ⟨g, 0, none⟩ = some x0 ∧ w.cell? ⟨g, 1, none⟩ = some x1 ∧ w.cell? ⟨g, 2, none⟩ = some x2 ∧ w.cell? ⟨g, 3, none⟩ = some x3 ∧ w.cell? ⟨g, 4, none⟩ = some x4 ∧ w.cell? ⟨g, 5, none⟩ = some x5 :=
  ⟨by rw [h.cell]; rfl, by rw [h.cell]; rfl, by rw [h.cell]; rfl, by rw [h.cell]; rfl, by rw [h.cell]; rfl, by rw [h.cell]; rfl⟩
theorem tbC {w : World} {g : Nat} {t : TypeId} {x0 x1 x2 x3 x4 x5 x6 x7 x8 : Value} (h : Blk w g t #[x0, x1, x2, x3, x4, x5, x6, x7, x8]) : w.cell? ⟨g, 0, none⟩ = some x0 ∧ w.cell? ⟨g, 1, none⟩ = some x1 ∧ w.cell? ⟨g, 2, none⟩ = some x2 ∧ w.cell? ⟨g, 3, none⟩ = some x3 ∧ w.cell? ⟨g, 4, none⟩ = some x4 ∧ w.cell? ⟨g, 5, none⟩ = some x5 ∧ w.cell? ⟨g, 6, none⟩ = some x6 ∧ w.cell? ⟨g, 7, none⟩ = some x7 ∧ w.cell? ⟨g, 8, none⟩ = some x8 :=
  ⟨by rw [h.cell]; rfl, by rw [h.cell]; rfl, by rw [h.cell]; rfl, by rw [h.cell]; rfl, by rw [h.cell]; rfl, by rw [h.cell]; rfl, by rw [h.cell]; rfl, by rw [h.cell]; rfl, by rw [h.cell]; rfl⟩
theorem RM.cells {w : World} {b o : Nat} {ms : List Mv} (h : RM w (some ⟨b, o, none⟩) ms) {k : Nat} (hk : k < ms.length) : w.cell? ⟨b, o + k * 4, none⟩ = some (.int .i64 (mv ms k).1) ∧ w.cell? ⟨b, o + k * 4 + 1, none⟩ = some (.int .i64 (mv ms k).2.1) ∧ w.cell? ⟨b, o + k * 4 + 2, none⟩ = some (.int .i64 (mv ms k).2.2.1) ∧ w.cell? ⟨b, o + k * 4 + 3, none⟩ = some (.int .i64 (mv ms k).2.2.2) := by
  obtain ⟨b', o', hA, h0, h1, h2, h3⟩ := h k hk
  injection hA with hA
  injection hA with e1 e2 _
  subst e1 e2
  exact ⟨h0, h1, h2, h3⟩
def st9 (w : World) (g : Nat) (x0 x1 x2 x3 x4 x5 x6 x7 x8 : Value) : World := (((((((((w.setCell ⟨g, 0, none⟩ x0).setCell ⟨g, 1, none⟩ x1).setCell ⟨g, 2, none⟩ x2).setCell ⟨g, 3, none⟩ x3).setCell ⟨g, 4, none⟩ x4).setCell ⟨g, 5, none⟩ x5).setCell ⟨g, 6, none⟩ x6).setCell ⟨g, 7, none⟩ x7).setCell ⟨g, 8, none⟩ x8)
theorem st9_blk {w : World} {g : Nat} {t : TypeId} {y0 y1 y2 y3 y4 y5 y6 y7 y8 : Value} (h : Blk w g t #[y0, y1, y2, y3, y4, y5, y6, y7, y8]) (x0 x1 x2 x3 x4 x5 x6 x7 x8 : Value) : Blk (st9 w g x0 x1 x2 x3 x4 x5 x6 x7 x8) g t #[x0, x1, x2, x3, x4, x5, x6, x7, x8] := by
  have h0 : Blk (w.setCell ⟨g, 0, none⟩ x0) g t #[x0, y1, y2, y3, y4, y5, y6, y7, y8] := h.set_ 0 x0
  have h1 : Blk ((w.setCell ⟨g, 0, none⟩ x0).setCell ⟨g, 1, none⟩ x1) g t #[x0, x1, y2, y3, y4, y5, y6, y7, y8] := h0.set_ 1 x1
  have h2 : Blk (((w.setCell ⟨g, 0, none⟩ x0).setCell ⟨g, 1, none⟩ x1).setCell ⟨g, 2, none⟩ x2) g t #[x0, x1, x2, y3, y4, y5, y6, y7, y8] := h1.set_ 2 x2
  have h3 : Blk ((((w.setCell ⟨g, 0, none⟩ x0).setCell ⟨g, 1, none⟩ x1).setCell ⟨g, 2, none⟩ x2).setCell ⟨g, 3, none⟩ x3) g t #[x0, x1, x2, x3, y4, y5, y6, y7, y8] := h2.set_ 3 x3
  have h4 : Blk (((((w.setCell ⟨g, 0, none⟩ x0).setCell ⟨g, 1, none⟩ x1).setCell ⟨g, 2, none⟩ x2).setCell ⟨g, 3, none⟩ x3).setCell ⟨g, 4, none⟩ x4) g t #[x0, x1, x2, x3, x4, y5, y6, y7, y8] := h3.set_ 4 x4
  have h5 : Blk ((((((w.setCell ⟨g, 0, none⟩ x0).setCell ⟨g, 1, none⟩ x1).setCell ⟨g, 2, none⟩ x2).setCell ⟨g, 3, none⟩ x3).setCell ⟨g, 4, none⟩ x4).setCell ⟨g, 5, none⟩ x5) g t #[x0, x1, x2, x3, x4, x5, y6, y7, y8] := h4.set_ 5 x5
  have h6 : Blk (((((((w.setCell ⟨g, 0, none⟩ x0).setCell ⟨g, 1, none⟩ x1).setCell ⟨g, 2, none⟩ x2).setCell ⟨g, 3, none⟩ x3).setCell ⟨g, 4, none⟩ x4).setCell ⟨g, 5, none⟩ x5).setCell ⟨g, 6, none⟩ x6) g t #[x0, x1, x2, x3, x4, x5, x6, y7, y8] := h5.set_ 6 x6
  have h7 : Blk ((((((((w.setCell ⟨g, 0, none⟩ x0).setCell ⟨g, 1, none⟩ x1).setCell ⟨g, 2, none⟩ x2).setCell ⟨g, 3, none⟩ x3).setCell ⟨g, 4, none⟩ x4).setCell ⟨g, 5, none⟩ x5).setCell ⟨g, 6, none⟩ x6).setCell ⟨g, 7, none⟩ x7) g t #[x0, x1, x2, x3, x4, x5, x6, x7, y8] := h6.set_ 7 x7
  have h8 : Blk (((((((((w.setCell ⟨g, 0, none⟩ x0).setCell ⟨g, 1, none⟩ x1).setCell ⟨g, 2, none⟩ x2).setCell ⟨g, 3, none⟩ x3).setCell ⟨g, 4, none⟩ x4).setCell ⟨g, 5, none⟩ x5).setCell ⟨g, 6, none⟩ x6).setCell ⟨g, 7, none⟩ x7).setCell ⟨g, 8, none⟩ x8) g t #[x0, x1, x2, x3, x4, x5, x6, x7, x8] := h7.set_ 8 x8
  exact h8
theorem st9_below {B : Nat} {a w : World} {g : Nat} (h : Below B a w) (hg : B ≤ g) (x0 x1 x2 x3 x4 x5 x6 x7 x8 : Value) : Below B a (st9 w g x0 x1 x2 x3 x4 x5 x6 x7 x8) := (((((((((h.setCell (p := ⟨g, 0, none⟩) hg x0).setCell (p := ⟨g, 1, none⟩) hg x1).setCell (p := ⟨g, 2, none⟩) hg x2).setCell (p := ⟨g, 3, none⟩) hg x3).setCell (p := ⟨g, 4, none⟩) hg x4).setCell (p := ⟨g, 5, none⟩) hg x5).setCell (p := ⟨g, 6, none⟩) hg x6).setCell (p := ⟨g, 7, none⟩) hg x7).setCell (p := ⟨g, 8, none⟩) hg x8)
theorem st9_row {w : World} {g g' n : Nat} {t : TypeId} {f : Nat → Value} (h : w.rowIs g' t n f) (hg : g' ≠ g) (x0 x1 x2 x3 x4 x5 x6 x7 x8 : Value) : (st9 w g x0 x1 x2 x3 x4 x5 x6 x7 x8).rowIs g' t n f := (World.rowIs.setOther (World.rowIs.setOther (World.rowIs.setOther (World.rowIs.setOther (World.rowIs.setOther (World.rowIs.setOther (World.rowIs.setOther (World.rowIs.setOther (World.rowIs.setOther h (a := ⟨g, 0, none⟩) hg x0) (a := ⟨g, 1, none⟩) hg x1) (a := ⟨g, 2, none⟩) hg x2) (a := ⟨g, 3, none⟩) hg x3) (a := ⟨g, 4, none⟩) hg x4) (a := ⟨g, 5, none⟩) hg x5) (a := ⟨g, 6, none⟩) hg x6) (a := ⟨g, 7, none⟩) hg x7) (a := ⟨g, 8, none⟩) hg x8)
theorem st9_size (w : World) (g : Nat) (x0 x1 x2 x3 x4 x5 x6 x7 x8 : Value) : (st9 w g x0 x1 x2 x3 x4 x5 x6 x7 x8).heap.size = w.heap.size := by unfold st9; simp
theorem boxed2A (w : World) (t u : TypeId) (cs ds : Array Value) : ∃ W0, (w.alloc (.cells cs t)).alloc (.cells ds u) = W0 ∧ Blk W0 w.heap.size t cs ∧ Blk W0 (w.heap.size + 1) u ds ∧ Below w.heap.size w W0 ∧ W0.heap.size = w.heap.size + 2 := by
  refine ⟨_, rfl, (Blk.new w t cs).alloc _, ?_, ((Below.refl _ _).alloc (Nat.le_refl _) _).alloc (by simp) _, by simp⟩
  have := Blk.new (w.alloc (.cells cs t)) u ds
  simpa using this
theorem tbF {w : World} {g : Nat} {t : TypeId} {cs : Array Value} (h : Blk w g t cs) : w.frozen? ⟨g, 0, none⟩ = false ∧ w.frozen? ⟨g, 1, none⟩ = false ∧ w.frozen? ⟨g, 2, none⟩ = false ∧ w.frozen? ⟨g, 3, none⟩ = false ∧ w.frozen? ⟨g, 4, none⟩ = false ∧ w.frozen? ⟨g, 5, none⟩ = false ∧ w.frozen? ⟨g, 6, none⟩ = false ∧ w.frozen? ⟨g, 7, none⟩ = false ∧ w.frozen? ⟨g, 8, none⟩ = false :=
  ⟨h.frozen 0, h.frozen 1, h.frozen 2, h.frozen 3, h.frozen 4, h.frozen 5, h.frozen 6, h.frozen 7, h.frozen 8⟩
/-- which of the three blocks are there -/
structure OfJ (B : Nat) (ms : List Mv) (a b c : Option Nat) (w : World) : Prop where
  fa : ∀ g, a = some g → B ≤ g ∧ Row w g ms.length (stF ms)
  fb : ∀ g, b = some g → B ≤ g ∧ RowB w g ms.length (fun _ => false)
  fc : ∀ g, c = some g → B ≤ g ∧ Blk w g 120 #[.int .i64 0, .slice none 0 0, .int .i64 0, .int .i64 0, .int .i64 0, .slice none 0 0, .slice none 0 0, .int .i64 0, .slice none 0 0]
  ab : ∀ x y, a = some x → b = some y → x ≠ y
  ac : ∀ x y, a = some x → c = some y → x ≠ y
  bc : ∀ x y, b = some x → c = some y → x ≠ y
section
variable {B : Nat} {ms : List Mv} {a b c : Option Nat} {w : World}
theorem OfJ.start : OfJ B ms none none none w := ⟨fun _ h => (by cases h), fun _ h => (by cases h), fun _ h => (by cases h), fun _ _ h => (by cases h), fun _ _ h => (by cases h), fun _ _ h => (by cases h)⟩
theorem OfJ.addA (h : OfJ B ms none b c w) (hB : B ≤ w.heap.size) {w' : World} (hb : Below w.heap.size w w') {g : Nat} (hg : w.heap.size ≤ g) (hr : Row w' g ms.length (stF ms)) : OfJ B ms (some g) b c w' :=
  ⟨fun q e => by injection e with e; subst e; exact ⟨Nat.le_trans hB hg, hr⟩, fun q e => ⟨(h.fb q e).1, rowIs_new (h.fb q e).2 hb⟩, fun q e => ⟨(h.fc q e).1, (h.fc q e).2.below hb (h.fc q e).2.lt⟩,
   fun x y e1 e2 => by injection e1 with e1; have := (h.fb y e2).2.lt; omega, fun x y e1 e2 => by injection e1 with e1; have := (h.fc y e2).2.lt; omega, h.bc⟩
theorem OfJ.addB (h : OfJ B ms a none c w) (hB : B ≤ w.heap.size) : OfJ B ms a (some w.heap.size) c (w.alloc (.cells (madeCells #[.bool false] ms.length) 4)) :=
  ⟨fun q e => ⟨(h.fa q e).1, World.rowIs.alloc (h.fa q e).2 _⟩, fun q e => by injection e with e; subst e; exact ⟨hB, World.rowIs_made _ _ _ _⟩, fun q e => ⟨(h.fc q e).1, (h.fc q e).2.alloc _⟩,
   fun x y e1 e2 => by injection e2 with e2; have := World.rowIs.lt (h.fa x e1).2; omega, h.ac, fun x y e1 e2 => by injection e1 with e1; have := (h.fc y e2).2.lt; omega⟩
theorem OfJ.addC (h : OfJ B ms a b none w) (hB : B ≤ w.heap.size) : OfJ B ms a b (some w.heap.size) (w.alloc (.cells #[.int .i64 0, .slice none 0 0, .int .i64 0, .int .i64 0, .int .i64 0, .slice none 0 0, .slice none 0 0, .int .i64 0, .slice none 0 0] 120)) :=
  ⟨fun q e => ⟨(h.fa q e).1, World.rowIs.alloc (h.fa q e).2 _⟩, fun q e => ⟨(h.fb q e).1, World.rowIs.alloc (h.fb q e).2 _⟩, fun q e => by injection e with e; subst e; exact ⟨hB, Blk.new _ _ _⟩,
   h.ab, fun x y e1 e2 => by injection e2 with e2; have := World.rowIs.lt (h.fa x e1).2; omega, fun x y e1 e2 => by injection e2 with e2; have := World.rowIs.lt (h.fb x e1).2; omega⟩
end
/-- the blocks of a table -/
structure OfK (B : Nat) (N : Int) (A : Option Addr) (k c : Nat) (root l0 l1 : Int) (M : Option Addr) (ms : List Mv) (cm q gS gL : Nat) (ld : Int) (w : World) : Prop where
  q0 : B ≤ q
  s0 : B ≤ gS
  d0 : B ≤ gL
  blk : Blk w q 120 #[.int .i64 N, .slice A k c, .int .i64 root, .int .i64 l0, .int .i64 l1, .slice M ms.length cm, .slice (some ⟨gS, 0, none⟩) ms.length ms.length, .int .i64 ld, .slice (some ⟨gL, 0, none⟩) ms.length ms.length]
  rs : Row w gS ms.length (stF ms)
  qs : gS ≠ q
  ql : gL ≠ q
  sl : gS ≠ gL
theorem OfK.below {B : Nat} {N : Int} {A : Option Addr} {k c : Nat} {root l0 l1 : Int} {M : Option Addr} {ms : List Mv} {cm q gS gL : Nat} {ld : Int} {w w' : World} (h : OfK B N A k c root l0 l1 M ms cm q gS gL ld w) (hb : Below w.heap.size w w') : OfK B N A k c root l0 l1 M ms cm q gS gL ld w' :=
  { h with blk := h.blk.below hb h.blk.lt, rs := rowIs_new h.rs hb }
theorem OfK.set {B : Nat} {N : Int} {A : Option Addr} {k c : Nat} {root l0 l1 : Int} {M : Option Addr} {ms : List Mv} {cm q gS gL : Nat} {ld : Int} {w : World} (h : OfK B N A k c root l0 l1 M ms cm q gS gL ld w) (i : Nat) (v : Value) : OfK B N A k c root l0 l1 M ms cm q gS gL ld (w.setCell ⟨gL, i, none⟩ v) :=
  { h with blk := h.blk.far (p := ⟨gL, i, none⟩) (fun e => h.ql e.symm) v, rs := World.rowIs.setOther h.rs (a := ⟨gL, i, none⟩) h.sl v }
theorem OfK.lead {B : Nat} {N : Int} {A : Option Addr} {k c : Nat} {root l0 l1 : Int} {M : Option Addr} {ms : List Mv} {cm q gS gL : Nat} {ld : Int} {w : World} (h : OfK B N A k c root l0 l1 M ms cm q gS gL ld w) (x : Int) : OfK B N A k c root l0 l1 M ms cm q gS gL x (w.setCell ⟨q, 7, none⟩ (.int .i64 x)) :=
  { h with blk := h.blk.set_ 7 _, rs := World.rowIs.setOther h.rs (a := ⟨q, 7, none⟩) h.qs _ }
theorem OfJ.store {B : Nat} {ms : List Mv} {q gS gL : Nat} {w W : World} {N : Int} {A : Option Addr} {k c : Nat} {root l0 l1 : Int} {M : Option Addr} {cm : Nat} (h : OfJ B ms (some gS) (some gL) (some q) w) (hS : Below B W w) :
    OfK B N A k c root l0 l1 M ms cm q gS gL 1 (st9 w q (.int .i64 N) (.slice A k c) (.int .i64 root) (.int .i64 l0) (.int .i64 l1) (.slice M ms.length cm) (.slice (some ⟨gS, 0, none⟩) ms.length ms.length) (.int .i64 1) (.slice (some ⟨gL, 0, none⟩) ms.length ms.length)) ∧ RowB (st9 w q (.int .i64 N) (.slice A k c) (.int .i64 root) (.int .i64 l0) (.int .i64 l1) (.slice M ms.length cm) (.slice (some ⟨gS, 0, none⟩) ms.length ms.length) (.int .i64 1) (.slice (some ⟨gL, 0, none⟩) ms.length ms.length)) gL ms.length (fun _ => false) ∧ Below B W (st9 w q (.int .i64 N) (.slice A k c) (.int .i64 root) (.int .i64 l0) (.int .i64 l1) (.slice M ms.length cm) (.slice (some ⟨gS, 0, none⟩) ms.length ms.length) (.int .i64 1) (.slice (some ⟨gL, 0, none⟩) ms.length ms.length)) := by
  obtain ⟨a1, a2⟩ := h.fa gS rfl
  obtain ⟨b1, b2⟩ := h.fb gL rfl
  obtain ⟨c1, c2⟩ := h.fc q rfl
  have h1 := h.ac gS q rfl rfl; have h2 := h.bc gL q rfl rfl
  exact ⟨⟨c1, a1, b1, st9_blk c2 .., st9_row a2 h1 .., h1, h2, h.ab gS gL rfl rfl⟩, st9_row b2 h2 .., st9_below hS c1 ..⟩
/-- the call returns the table of the dialogue -/
def RetTb (N : Int) (A : Option Addr) (k c : Nat) (root l0 l1 : Int) (M : Option Addr) (ms : List Mv) (cm : Nat) (w : World) : Ending → World → Prop := fun e w' => ∃ gS gL, e = .returned (.agg #[.int .i64 N, .slice A k c, .int .i64 root, .int .i64 l0, .int .i64 l1, .slice M ms.length cm, .slice (some ⟨gS, 0, none⟩) ms.length ms.length, .int .i64 (leadr ms), .slice (some ⟨gL, 0, none⟩) ms.length ms.length]) ∧ Row w' gS ms.length (stF ms) ∧ RowB w' gL ms.length (ldF ms) ∧ Below w.heap.size w w'
set_option maxRecDepth 100000 in
set_option maxHeartbeats 8000000 in
theorem of_any (N : Int) (A : Option Addr) (k c : Nat) (root l0 l1 : Int) (M : Option Addr) (ms : List Mv) (cm : Nat) (w : World) (hr : RM w M ms) (hm : OkM ms) (hl : ms.length ≤ 1000) :
    Calls Tryz.prog 67 #[.agg #[.int .i64 N, .slice A k c, .int .i64 root, .int .i64 l0, .int .i64 l1, .slice M ms.length cm]] w (RetTb N A k c root l0 l1 M ms cm w) := by
  have hmk := run_make_row' (P := Tryz.prog) 118 4 (.bool false) 1 Tryz.underlying118 info_bool rfl .i64 .i64 ms.length (by omega) (by omega)
  have HM := Lib.hid hm
  have Hl := Lib.hid hl
  have hpos := hm.pos
  clear hm
  have Hmk := Lib.hid hmk
  clear hmk
  go_enter Tryz.func67, Tryz.ntmps67
  go_upto_region 1 with fail
  obtain ⟨W1, hW, kd, kt, hb0, hs0⟩ := boxed2A w 55 120 #[.int .i64 N, .slice A k c, .int .i64 root, .int .i64 l0, .int .i64 l1, .slice M ms.length cm] #[.int .i64 0, .slice none 0 0, .int .i64 0, .int .i64 0, .int .i64 0, .slice none 0 0, .slice none 0 0, .int .i64 0, .slice none 0 0]
  rw [hW]
  clear hW
  have hrm := hr.below hb0
  have Hr := Lib.hid hr
  clear hr
  go_cut [3] (fun s wx => ∃ q gS gL, s = Value.pointer (some ⟨q, 0, none⟩) ∧ OfK W1.heap.size N A k c root l0 l1 M ms cm q gS gL 1 wx ∧ RowB wx gL ms.length (fun _ => false) ∧ Below W1.heap.size W1 wx)
  case first =>
    refine wp_region_tree [2, 6, 8, 9] (fun w' => Below W1.heap.size W1 w') (fun w' => OfJ W1.heap.size ms none none none w') 10 [0, 1, 2, 3, 4, 5, 6, 7, 8, 9] (by rfl) (by decide) (by kernel_rfl) (by kernel_rfl) (Below.refl _ _).drew OfJ.start ?_
    refine TxtT.pure 0 (by rfl) (by rw [List.getElem?_toArray]; rfl) (by rfl) (by as_aux_lemma => kernel_rfl) (by rfl) ?_; apply Exists.intro; refine ⟨fun w1 hS1 => ?_, ?_⟩; (focus ((obtain ⟨g0, g1, g2, g3, g4, g5⟩ := dgC (kd.below hS1 kd.lt)); go_simp; with_reducible rfl))
    rw [show List.erase [0, 1, 2, 3, 4, 5, 6, 7, 8, 9] 0 = [1, 2, 3, 4, 5, 6, 7, 8, 9] from rfl]; simp only [Act.put, List.setIfInBounds_toArray, List.set_cons_zero, List.set_cons_succ]
    refine TxtT.pure 1 (by rfl) (by rw [List.getElem?_toArray]; rfl) (by rfl) (by as_aux_lemma => kernel_rfl) (by rfl) ?_; apply Exists.intro; refine ⟨fun w1 hS1 => ?_, ?_⟩; (focus ((obtain ⟨g0, g1, g2, g3, g4, g5⟩ := dgC (kd.below hS1 kd.lt)); go_simp; with_reducible rfl))
    rw [show List.erase [1, 2, 3, 4, 5, 6, 7, 8, 9] 1 = [2, 3, 4, 5, 6, 7, 8, 9] from rfl]; simp only [Act.put, List.setIfInBounds_toArray, List.set_cons_zero, List.set_cons_succ]
    refine TxtT.pure 3 (by rfl) (by rw [List.getElem?_toArray]; rfl) (by rfl) (by as_aux_lemma => kernel_rfl) (by rfl) ?_; apply Exists.intro; refine ⟨fun w1 hS1 => ?_, ?_⟩; (focus (skip; go_simp; with_reducible rfl))
    rw [show List.erase [2, 3, 4, 5, 6, 7, 8, 9] 3 = [2, 4, 5, 6, 7, 8, 9] from rfl]; simp only [Act.put, List.setIfInBounds_toArray, List.set_cons_zero, List.set_cons_succ]
    refine TxtT.pure 4 (by rfl) (by rw [List.getElem?_toArray]; rfl) (by rfl) (by as_aux_lemma => kernel_rfl) (by rfl) ?_; apply Exists.intro; refine ⟨fun w1 hS1 => ?_, ?_⟩; (focus ((obtain ⟨g0, g1, g2, g3, g4, g5⟩ := dgC (kd.below hS1 kd.lt)); go_simp; with_reducible rfl))
    rw [show List.erase [2, 4, 5, 6, 7, 8, 9] 4 = [2, 5, 6, 7, 8, 9] from rfl]; simp only [Act.put, List.setIfInBounds_toArray, List.set_cons_zero, List.set_cons_succ]
    refine TxtT.pure 5 (by rfl) (by rw [List.getElem?_toArray]; rfl) (by rfl) (by as_aux_lemma => kernel_rfl) (by rfl) ?_; apply Exists.intro; refine ⟨fun w1 hS1 => ?_, ?_⟩; (focus (skip; go_simp; with_reducible rfl))
    rw [show List.erase [2, 5, 6, 7, 8, 9] 5 = [2, 6, 7, 8, 9] from rfl]; simp only [Act.put, List.setIfInBounds_toArray, List.set_cons_zero, List.set_cons_succ]
    refine TxtT.three 2 6 8 (by as_aux_lemma => kernel_rfl) (by rw [List.getElem?_toArray]; rfl) (by rw [List.getElem?_toArray]; rfl) (by rw [List.getElem?_toArray]; rfl) (by rfl) (by rfl) (by rfl) (by rfl) (by rfl) (by rfl) (fun v => ∃ g, v = Value.slice (some ⟨g, 0, none⟩) ms.length ms.length) (fun v w' => ∃ g, v = Value.slice (some ⟨g, 0, none⟩) ms.length ms.length ∧ OfJ W1.heap.size ms (some g) none none w') (fun v => ∃ g, v = Value.slice (some ⟨g, 0, none⟩) ms.length ms.length) (fun v w' => ∃ g, v = Value.slice (some ⟨g, 0, none⟩) ms.length ms.length ∧ OfJ W1.heap.size ms none (some g) none w') (fun v => ∃ g, v = Value.pointer (some ⟨g, 0, none⟩)) (fun v w' => ∃ g, v = Value.pointer (some ⟨g, 0, none⟩) ∧ OfJ W1.heap.size ms none none (some g) w') (fun w1 hS1 hJ1 => ?_) (fun w1 hS1 hJ1 => ?_) (fun w1 hS1 hJ1 => ?_) ?_ ?_ ?_
    · refine Eff.call (f := 85) (args := #[.agg #[.int .i64 N, .slice A k c, .int .i64 root, .int .i64 l0, .int .i64 l1, .slice M ms.length cm]]) (by go_simp) ((status_any N A k c root l0 l1 M ms cm w1 (hrm.below hS1) HM.out Hl.out).mono ?_)
      rintro e w' ⟨g, rfl, hg, hrow, hb3⟩
      exact ⟨_, rfl, hS1.trans (hb3.mono hS1.size), ⟨g, rfl⟩, g, rfl, OfJ.addA hJ1 hS1.size hb3 hg hrow⟩
    · have hmk := Hmk.out
      exact Eff.value (w' := w1.alloc (.cells (madeCells #[.bool false] ms.length) 4)) (v := .slice (some ⟨w1.heap.size, 0, none⟩) ms.length ms.length) (by go_simp) ⟨hS1.trans ((newB w1 _).mono hS1.size), ⟨_, rfl⟩, _, rfl, OfJ.addB hJ1 hS1.size⟩
    · exact Eff.value (w' := w1.alloc (.cells #[.int .i64 0, .slice none 0 0, .int .i64 0, .int .i64 0, .int .i64 0, .slice none 0 0, .slice none 0 0, .int .i64 0, .slice none 0 0] 120)) (v := .pointer (some ⟨w1.heap.size, 0, none⟩)) (by go_simp) ⟨hS1.trans ((newB w1 _).mono hS1.size), ⟨_, rfl⟩, _, rfl, OfJ.addC hJ1 hS1.size⟩
    ·
      rintro _ ⟨gS, rfl⟩
      rw [show List.erase [2, 6, 7, 8, 9] 2 = [6, 7, 8, 9] from rfl]; simp only [Act.put, List.setIfInBounds_toArray, List.set_cons_zero, List.set_cons_succ]
      refine TxtT.weakJ (J2 := (fun w' => OfJ W1.heap.size ms (some gS) none none w')) (fun w1 h => by obtain ⟨g, hg, h⟩ := h; injection hg with hg; injection hg with hg; injection hg with hg _ _; subst hg; exact h) ?_
      refine TxtT.two 6 8 (by as_aux_lemma => kernel_rfl) (by rw [List.getElem?_toArray]; rfl) (by rw [List.getElem?_toArray]; rfl) (by rfl) (by rfl) (by rfl) (by rfl) (fun v => ∃ g, v = Value.slice (some ⟨g, 0, none⟩) ms.length ms.length) (fun v w' => ∃ g, v = Value.slice (some ⟨g, 0, none⟩) ms.length ms.length ∧ OfJ W1.heap.size ms (some gS) (some g) none w') (fun v => ∃ g, v = Value.pointer (some ⟨g, 0, none⟩)) (fun v w' => ∃ g, v = Value.pointer (some ⟨g, 0, none⟩) ∧ OfJ W1.heap.size ms (some gS) none (some g) w') (fun w1 hS1 hJ1 => ?_) (fun w1 hS1 hJ1 => ?_) ?_ ?_
      · have hmk := Hmk.out
        exact Eff.value (w' := w1.alloc (.cells (madeCells #[.bool false] ms.length) 4)) (v := .slice (some ⟨w1.heap.size, 0, none⟩) ms.length ms.length) (by go_simp) ⟨hS1.trans ((newB w1 _).mono hS1.size), ⟨_, rfl⟩, _, rfl, OfJ.addB hJ1 hS1.size⟩
      · exact Eff.value (w' := w1.alloc (.cells #[.int .i64 0, .slice none 0 0, .int .i64 0, .int .i64 0, .int .i64 0, .slice none 0 0, .slice none 0 0, .int .i64 0, .slice none 0 0] 120)) (v := .pointer (some ⟨w1.heap.size, 0, none⟩)) (by go_simp) ⟨hS1.trans ((newB w1 _).mono hS1.size), ⟨_, rfl⟩, _, rfl, OfJ.addC hJ1 hS1.size⟩
      ·
        rintro _ ⟨gL, rfl⟩
        rw [show List.erase [6, 7, 8, 9] 6 = [7, 8, 9] from rfl]; simp only [Act.put, List.setIfInBounds_toArray, List.set_cons_zero, List.set_cons_succ]
        refine TxtT.weakJ (J2 := (fun w' => OfJ W1.heap.size ms (some gS) (some gL) none w')) (fun w1 h => by obtain ⟨g, hg, h⟩ := h; injection hg with hg; injection hg with hg; injection hg with hg _ _; subst hg; exact h) ?_
        refine TxtT.pure 7 (by rfl) (by rw [List.getElem?_toArray]; rfl) (by rfl) (by as_aux_lemma => kernel_rfl) (by rfl) ?_; apply Exists.intro; refine ⟨fun w1 hS1 => ?_, ?_⟩; (focus (skip; go_simp; with_reducible rfl))
        rw [show List.erase [7, 8, 9] 7 = [8, 9] from rfl]; simp only [Act.put, List.setIfInBounds_toArray, List.set_cons_zero, List.set_cons_succ]
        refine TxtT.one 8 (by as_aux_lemma => kernel_rfl) (by rw [List.getElem?_toArray]; rfl) (by rfl) (by rfl) (fun v => ∃ g, v = Value.pointer (some ⟨g, 0, none⟩)) (fun v w' => ∃ g, v = Value.pointer (some ⟨g, 0, none⟩) ∧ OfJ W1.heap.size ms (some gS) (some gL) (some g) w') (fun w1 hS1 hJ1 => ?_) ?_
        · exact Eff.value (w' := w1.alloc (.cells #[.int .i64 0, .slice none 0 0, .int .i64 0, .int .i64 0, .int .i64 0, .slice none 0 0, .slice none 0 0, .int .i64 0, .slice none 0 0] 120)) (v := .pointer (some ⟨w1.heap.size, 0, none⟩)) (by go_simp) ⟨hS1.trans ((newB w1 _).mono hS1.size), ⟨_, rfl⟩, _, rfl, OfJ.addC hJ1 hS1.size⟩
        rintro _ ⟨q, rfl⟩
        rw [show List.erase [8, 9] 8 = [9] from rfl]; simp only [Act.put, List.setIfInBounds_toArray, List.set_cons_zero, List.set_cons_succ]
        refine TxtT.weakJ (J2 := (fun w' => OfJ W1.heap.size ms (some gS) (some gL) (some q) w')) (fun w1 h => by obtain ⟨g, hg, h⟩ := h; injection hg with hg; injection hg with hg; injection hg with hg _ _; subst hg; exact h) ?_
        refine TxtT.one 9 (by as_aux_lemma => kernel_rfl) (by rw [List.getElem?_toArray]; rfl) (by rfl) (by rfl) (fun v => v = undef) (fun _ w' => OfK W1.heap.size N A k c root l0 l1 M ms cm q gS gL 1 w' ∧ RowB w' gL ms.length (fun _ => false)) (fun w1 hS1 hJ1 => ?_) ?_
        · have hst := OfJ.store (N := N) (A := A) (k := k) (c := c) (root := root) (l0 := l0) (l1 := l1) (M := M) (cm := cm) hJ1 hS1
          obtain ⟨z0, z1, z2, z3, z4, z5, z6, z7, z8⟩ := tbC (hJ1.fc q rfl).2
          obtain ⟨y0, y1, y2, y3, y4, y5, y6, y7, y8⟩ := tbF (hJ1.fc q rfl).2
          exact Eff.skip (by go_simp; rfl) ⟨hst.2.2, rfl, hst.1, hst.2.1⟩
        rintro _ rfl
        rw [show List.erase [9] 9 = [] from rfl]; simp only [Act.put]
        refine ⟨rfl, fun w1 hS1 hJ1 => ?_⟩
        go_wp2_with fail
        go_meet
        exact ⟨q, gS, gL, rfl, hJ1.1, hJ1.2, hS1⟩
      ·
        rintro _ ⟨q, rfl⟩
        rw [show List.erase [6, 7, 8, 9] 8 = [6, 7, 9] from rfl]; simp only [Act.put, List.setIfInBounds_toArray, List.set_cons_zero, List.set_cons_succ]
        refine TxtT.weakJ (J2 := (fun w' => OfJ W1.heap.size ms (some gS) none (some q) w')) (fun w1 h => by obtain ⟨g, hg, h⟩ := h; injection hg with hg; injection hg with hg; injection hg with hg _ _; subst hg; exact h) ?_
        refine TxtT.one 6 (by as_aux_lemma => kernel_rfl) (by rw [List.getElem?_toArray]; rfl) (by rfl) (by rfl) (fun v => ∃ g, v = Value.slice (some ⟨g, 0, none⟩) ms.length ms.length) (fun v w' => ∃ g, v = Value.slice (some ⟨g, 0, none⟩) ms.length ms.length ∧ OfJ W1.heap.size ms (some gS) (some g) (some q) w') (fun w1 hS1 hJ1 => ?_) ?_
        · have hmk := Hmk.out
          exact Eff.value (w' := w1.alloc (.cells (madeCells #[.bool false] ms.length) 4)) (v := .slice (some ⟨w1.heap.size, 0, none⟩) ms.length ms.length) (by go_simp) ⟨hS1.trans ((newB w1 _).mono hS1.size), ⟨_, rfl⟩, _, rfl, OfJ.addB hJ1 hS1.size⟩
        rintro _ ⟨gL, rfl⟩
        rw [show List.erase [6, 7, 9] 6 = [7, 9] from rfl]; simp only [Act.put, List.setIfInBounds_toArray, List.set_cons_zero, List.set_cons_succ]
        refine TxtT.weakJ (J2 := (fun w' => OfJ W1.heap.size ms (some gS) (some gL) (some q) w')) (fun w1 h => by obtain ⟨g, hg, h⟩ := h; injection hg with hg; injection hg with hg; injection hg with hg _ _; subst hg; exact h) ?_
        refine TxtT.pure 7 (by rfl) (by rw [List.getElem?_toArray]; rfl) (by rfl) (by as_aux_lemma => kernel_rfl) (by rfl) ?_; apply Exists.intro; refine ⟨fun w1 hS1 => ?_, ?_⟩; (focus (skip; go_simp; with_reducible rfl))
        rw [show List.erase [7, 9] 7 = [9] from rfl]; simp only [Act.put, List.setIfInBounds_toArray, List.set_cons_zero, List.set_cons_succ]
        refine TxtT.one 9 (by as_aux_lemma => kernel_rfl) (by rw [List.getElem?_toArray]; rfl) (by rfl) (by rfl) (fun v => v = undef) (fun _ w' => OfK W1.heap.size N A k c root l0 l1 M ms cm q gS gL 1 w' ∧ RowB w' gL ms.length (fun _ => false)) (fun w1 hS1 hJ1 => ?_) ?_
        · have hst := OfJ.store (N := N) (A := A) (k := k) (c := c) (root := root) (l0 := l0) (l1 := l1) (M := M) (cm := cm) hJ1 hS1
          obtain ⟨z0, z1, z2, z3, z4, z5, z6, z7, z8⟩ := tbC (hJ1.fc q rfl).2
          obtain ⟨y0, y1, y2, y3, y4, y5, y6, y7, y8⟩ := tbF (hJ1.fc q rfl).2
          exact Eff.skip (by go_simp; rfl) ⟨hst.2.2, rfl, hst.1, hst.2.1⟩
        rintro _ rfl
        rw [show List.erase [9] 9 = [] from rfl]; simp only [Act.put]
        refine ⟨rfl, fun w1 hS1 hJ1 => ?_⟩
        go_wp2_with fail
        go_meet
        exact ⟨q, gS, gL, rfl, hJ1.1, hJ1.2, hS1⟩
    ·
      rintro _ ⟨gL, rfl⟩
      rw [show List.erase [2, 6, 7, 8, 9] 6 = [2, 7, 8, 9] from rfl]; simp only [Act.put, List.setIfInBounds_toArray, List.set_cons_zero, List.set_cons_succ]
      refine TxtT.weakJ (J2 := (fun w' => OfJ W1.heap.size ms none (some gL) none w')) (fun w1 h => by obtain ⟨g, hg, h⟩ := h; injection hg with hg; injection hg with hg; injection hg with hg _ _; subst hg; exact h) ?_
      refine TxtT.two 2 8 (by as_aux_lemma => kernel_rfl) (by rw [List.getElem?_toArray]; rfl) (by rw [List.getElem?_toArray]; rfl) (by rfl) (by rfl) (by rfl) (by rfl) (fun v => ∃ g, v = Value.slice (some ⟨g, 0, none⟩) ms.length ms.length) (fun v w' => ∃ g, v = Value.slice (some ⟨g, 0, none⟩) ms.length ms.length ∧ OfJ W1.heap.size ms (some g) (some gL) none w') (fun v => ∃ g, v = Value.pointer (some ⟨g, 0, none⟩)) (fun v w' => ∃ g, v = Value.pointer (some ⟨g, 0, none⟩) ∧ OfJ W1.heap.size ms none (some gL) (some g) w') (fun w1 hS1 hJ1 => ?_) (fun w1 hS1 hJ1 => ?_) ?_ ?_
      · refine Eff.call (f := 85) (args := #[.agg #[.int .i64 N, .slice A k c, .int .i64 root, .int .i64 l0, .int .i64 l1, .slice M ms.length cm]]) (by go_simp) ((status_any N A k c root l0 l1 M ms cm w1 (hrm.below hS1) HM.out Hl.out).mono ?_)
        rintro e w' ⟨g, rfl, hg, hrow, hb3⟩
        exact ⟨_, rfl, hS1.trans (hb3.mono hS1.size), ⟨g, rfl⟩, g, rfl, OfJ.addA hJ1 hS1.size hb3 hg hrow⟩
      · exact Eff.value (w' := w1.alloc (.cells #[.int .i64 0, .slice none 0 0, .int .i64 0, .int .i64 0, .int .i64 0, .slice none 0 0, .slice none 0 0, .int .i64 0, .slice none 0 0] 120)) (v := .pointer (some ⟨w1.heap.size, 0, none⟩)) (by go_simp) ⟨hS1.trans ((newB w1 _).mono hS1.size), ⟨_, rfl⟩, _, rfl, OfJ.addC hJ1 hS1.size⟩
      ·
        rintro _ ⟨gS, rfl⟩
        rw [show List.erase [2, 7, 8, 9] 2 = [7, 8, 9] from rfl]; simp only [Act.put, List.setIfInBounds_toArray, List.set_cons_zero, List.set_cons_succ]
        refine TxtT.weakJ (J2 := (fun w' => OfJ W1.heap.size ms (some gS) (some gL) none w')) (fun w1 h => by obtain ⟨g, hg, h⟩ := h; injection hg with hg; injection hg with hg; injection hg with hg _ _; subst hg; exact h) ?_
        refine TxtT.pure 7 (by rfl) (by rw [List.getElem?_toArray]; rfl) (by rfl) (by as_aux_lemma => kernel_rfl) (by rfl) ?_; apply Exists.intro; refine ⟨fun w1 hS1 => ?_, ?_⟩; (focus (skip; go_simp; with_reducible rfl))
        rw [show List.erase [7, 8, 9] 7 = [8, 9] from rfl]; simp only [Act.put, List.setIfInBounds_toArray, List.set_cons_zero, List.set_cons_succ]
        refine TxtT.one 8 (by as_aux_lemma => kernel_rfl) (by rw [List.getElem?_toArray]; rfl) (by rfl) (by rfl) (fun v => ∃ g, v = Value.pointer (some ⟨g, 0, none⟩)) (fun v w' => ∃ g, v = Value.pointer (some ⟨g, 0, none⟩) ∧ OfJ W1.heap.size ms (some gS) (some gL) (some g) w') (fun w1 hS1 hJ1 => ?_) ?_
        · exact Eff.value (w' := w1.alloc (.cells #[.int .i64 0, .slice none 0 0, .int .i64 0, .int .i64 0, .int .i64 0, .slice none 0 0, .slice none 0 0, .int .i64 0, .slice none 0 0] 120)) (v := .pointer (some ⟨w1.heap.size, 0, none⟩)) (by go_simp) ⟨hS1.trans ((newB w1 _).mono hS1.size), ⟨_, rfl⟩, _, rfl, OfJ.addC hJ1 hS1.size⟩
        rintro _ ⟨q, rfl⟩
        rw [show List.erase [8, 9] 8 = [9] from rfl]; simp only [Act.put, List.setIfInBounds_toArray, List.set_cons_zero, List.set_cons_succ]
        refine TxtT.weakJ (J2 := (fun w' => OfJ W1.heap.size ms (some gS) (some gL) (some q) w')) (fun w1 h => by obtain ⟨g, hg, h⟩ := h; injection hg with hg; injection hg with hg; injection hg with hg _ _; subst hg; exact h) ?_
        refine TxtT.one 9 (by as_aux_lemma => kernel_rfl) (by rw [List.getElem?_toArray]; rfl) (by rfl) (by rfl) (fun v => v = undef) (fun _ w' => OfK W1.heap.size N A k c root l0 l1 M ms cm q gS gL 1 w' ∧ RowB w' gL ms.length (fun _ => false)) (fun w1 hS1 hJ1 => ?_) ?_
        · have hst := OfJ.store (N := N) (A := A) (k := k) (c := c) (root := root) (l0 := l0) (l1 := l1) (M := M) (cm := cm) hJ1 hS1
          obtain ⟨z0, z1, z2, z3, z4, z5, z6, z7, z8⟩ := tbC (hJ1.fc q rfl).2
          obtain ⟨y0, y1, y2, y3, y4, y5, y6, y7, y8⟩ := tbF (hJ1.fc q rfl).2
          exact Eff.skip (by go_simp; rfl) ⟨hst.2.2, rfl, hst.1, hst.2.1⟩
        rintro _ rfl
        rw [show List.erase [9] 9 = [] from rfl]; simp only [Act.put]
        refine ⟨rfl, fun w1 hS1 hJ1 => ?_⟩
        go_wp2_with fail
        go_meet
        exact ⟨q, gS, gL, rfl, hJ1.1, hJ1.2, hS1⟩
      ·
        rintro _ ⟨q, rfl⟩
        rw [show List.erase [2, 7, 8, 9] 8 = [2, 7, 9] from rfl]; simp only [Act.put, List.setIfInBounds_toArray, List.set_cons_zero, List.set_cons_succ]
        refine TxtT.weakJ (J2 := (fun w' => OfJ W1.heap.size ms none (some gL) (some q) w')) (fun w1 h => by obtain ⟨g, hg, h⟩ := h; injection hg with hg; injection hg with hg; injection hg with hg _ _; subst hg; exact h) ?_
        refine TxtT.one 2 (by as_aux_lemma => kernel_rfl) (by rw [List.getElem?_toArray]; rfl) (by rfl) (by rfl) (fun v => ∃ g, v = Value.slice (some ⟨g, 0, none⟩) ms.length ms.length) (fun v w' => ∃ g, v = Value.slice (some ⟨g, 0, none⟩) ms.length ms.length ∧ OfJ W1.heap.size ms (some g) (some gL) (some q) w') (fun w1 hS1 hJ1 => ?_) ?_
        · refine Eff.call (f := 85) (args := #[.agg #[.int .i64 N, .slice A k c, .int .i64 root, .int .i64 l0, .int .i64 l1, .slice M ms.length cm]]) (by go_simp) ((status_any N A k c root l0 l1 M ms cm w1 (hrm.below hS1) HM.out Hl.out).mono ?_)
          rintro e w' ⟨g, rfl, hg, hrow, hb3⟩
          exact ⟨_, rfl, hS1.trans (hb3.mono hS1.size), ⟨g, rfl⟩, g, rfl, OfJ.addA hJ1 hS1.size hb3 hg hrow⟩
        rintro _ ⟨gS, rfl⟩
        rw [show List.erase [2, 7, 9] 2 = [7, 9] from rfl]; simp only [Act.put, List.setIfInBounds_toArray, List.set_cons_zero, List.set_cons_succ]
        refine TxtT.weakJ (J2 := (fun w' => OfJ W1.heap.size ms (some gS) (some gL) (some q) w')) (fun w1 h => by obtain ⟨g, hg, h⟩ := h; injection hg with hg; injection hg with hg; injection hg with hg _ _; subst hg; exact h) ?_
        refine TxtT.pure 7 (by rfl) (by rw [List.getElem?_toArray]; rfl) (by rfl) (by as_aux_lemma => kernel_rfl) (by rfl) ?_; apply Exists.intro; refine ⟨fun w1 hS1 => ?_, ?_⟩; (focus (skip; go_simp; with_reducible rfl))
        rw [show List.erase [7, 9] 7 = [9] from rfl]; simp only [Act.put, List.setIfInBounds_toArray, List.set_cons_zero, List.set_cons_succ]
        refine TxtT.one 9 (by as_aux_lemma => kernel_rfl) (by rw [List.getElem?_toArray]; rfl) (by rfl) (by rfl) (fun v => v = undef) (fun _ w' => OfK W1.heap.size N A k c root l0 l1 M ms cm q gS gL 1 w' ∧ RowB w' gL ms.length (fun _ => false)) (fun w1 hS1 hJ1 => ?_) ?_
        · have hst := OfJ.store (N := N) (A := A) (k := k) (c := c) (root := root) (l0 := l0) (l1 := l1) (M := M) (cm := cm) hJ1 hS1
          obtain ⟨z0, z1, z2, z3, z4, z5, z6, z7, z8⟩ := tbC (hJ1.fc q rfl).2
          obtain ⟨y0, y1, y2, y3, y4, y5, y6, y7, y8⟩ := tbF (hJ1.fc q rfl).2
          exact Eff.skip (by go_simp; rfl) ⟨hst.2.2, rfl, hst.1, hst.2.1⟩
        rintro _ rfl
        rw [show List.erase [9] 9 = [] from rfl]; simp only [Act.put]
        refine ⟨rfl, fun w1 hS1 hJ1 => ?_⟩
        go_wp2_with fail
        go_meet
        exact ⟨q, gS, gL, rfl, hJ1.1, hJ1.2, hS1⟩
    ·
      rintro _ ⟨q, rfl⟩
      rw [show List.erase [2, 6, 7, 8, 9] 8 = [2, 6, 7, 9] from rfl]; simp only [Act.put, List.setIfInBounds_toArray, List.set_cons_zero, List.set_cons_succ]
      refine TxtT.weakJ (J2 := (fun w' => OfJ W1.heap.size ms none none (some q) w')) (fun w1 h => by obtain ⟨g, hg, h⟩ := h; injection hg with hg; injection hg with hg; injection hg with hg _ _; subst hg; exact h) ?_
      refine TxtT.two 2 6 (by as_aux_lemma => kernel_rfl) (by rw [List.getElem?_toArray]; rfl) (by rw [List.getElem?_toArray]; rfl) (by rfl) (by rfl) (by rfl) (by rfl) (fun v => ∃ g, v = Value.slice (some ⟨g, 0, none⟩) ms.length ms.length) (fun v w' => ∃ g, v = Value.slice (some ⟨g, 0, none⟩) ms.length ms.length ∧ OfJ W1.heap.size ms (some g) none (some q) w') (fun v => ∃ g, v = Value.slice (some ⟨g, 0, none⟩) ms.length ms.length) (fun v w' => ∃ g, v = Value.slice (some ⟨g, 0, none⟩) ms.length ms.length ∧ OfJ W1.heap.size ms none (some g) (some q) w') (fun w1 hS1 hJ1 => ?_) (fun w1 hS1 hJ1 => ?_) ?_ ?_
      · refine Eff.call (f := 85) (args := #[.agg #[.int .i64 N, .slice A k c, .int .i64 root, .int .i64 l0, .int .i64 l1, .slice M ms.length cm]]) (by go_simp) ((status_any N A k c root l0 l1 M ms cm w1 (hrm.below hS1) HM.out Hl.out).mono ?_)
        rintro e w' ⟨g, rfl, hg, hrow, hb3⟩
        exact ⟨_, rfl, hS1.trans (hb3.mono hS1.size), ⟨g, rfl⟩, g, rfl, OfJ.addA hJ1 hS1.size hb3 hg hrow⟩
      · have hmk := Hmk.out
        exact Eff.value (w' := w1.alloc (.cells (madeCells #[.bool false] ms.length) 4)) (v := .slice (some ⟨w1.heap.size, 0, none⟩) ms.length ms.length) (by go_simp) ⟨hS1.trans ((newB w1 _).mono hS1.size), ⟨_, rfl⟩, _, rfl, OfJ.addB hJ1 hS1.size⟩
      ·
        rintro _ ⟨gS, rfl⟩
        rw [show List.erase [2, 6, 7, 9] 2 = [6, 7, 9] from rfl]; simp only [Act.put, List.setIfInBounds_toArray, List.set_cons_zero, List.set_cons_succ]
        refine TxtT.weakJ (J2 := (fun w' => OfJ W1.heap.size ms (some gS) none (some q) w')) (fun w1 h => by obtain ⟨g, hg, h⟩ := h; injection hg with hg; injection hg with hg; injection hg with hg _ _; subst hg; exact h) ?_
        refine TxtT.one 6 (by as_aux_lemma => kernel_rfl) (by rw [List.getElem?_toArray]; rfl) (by rfl) (by rfl) (fun v => ∃ g, v = Value.slice (some ⟨g, 0, none⟩) ms.length ms.length) (fun v w' => ∃ g, v = Value.slice (some ⟨g, 0, none⟩) ms.length ms.length ∧ OfJ W1.heap.size ms (some gS) (some g) (some q) w') (fun w1 hS1 hJ1 => ?_) ?_
        · have hmk := Hmk.out
          exact Eff.value (w' := w1.alloc (.cells (madeCells #[.bool false] ms.length) 4)) (v := .slice (some ⟨w1.heap.size, 0, none⟩) ms.length ms.length) (by go_simp) ⟨hS1.trans ((newB w1 _).mono hS1.size), ⟨_, rfl⟩, _, rfl, OfJ.addB hJ1 hS1.size⟩
        rintro _ ⟨gL, rfl⟩
        rw [show List.erase [6, 7, 9] 6 = [7, 9] from rfl]; simp only [Act.put, List.setIfInBounds_toArray, List.set_cons_zero, List.set_cons_succ]
        refine TxtT.weakJ (J2 := (fun w' => OfJ W1.heap.size ms (some gS) (some gL) (some q) w')) (fun w1 h => by obtain ⟨g, hg, h⟩ := h; injection hg with hg; injection hg with hg; injection hg with hg _ _; subst hg; exact h) ?_
        refine TxtT.pure 7 (by rfl) (by rw [List.getElem?_toArray]; rfl) (by rfl) (by as_aux_lemma => kernel_rfl) (by rfl) ?_; apply Exists.intro; refine ⟨fun w1 hS1 => ?_, ?_⟩; (focus (skip; go_simp; with_reducible rfl))
        rw [show List.erase [7, 9] 7 = [9] from rfl]; simp only [Act.put, List.setIfInBounds_toArray, List.set_cons_zero, List.set_cons_succ]
        refine TxtT.one 9 (by as_aux_lemma => kernel_rfl) (by rw [List.getElem?_toArray]; rfl) (by rfl) (by rfl) (fun v => v = undef) (fun _ w' => OfK W1.heap.size N A k c root l0 l1 M ms cm q gS gL 1 w' ∧ RowB w' gL ms.length (fun _ => false)) (fun w1 hS1 hJ1 => ?_) ?_
        · have hst := OfJ.store (N := N) (A := A) (k := k) (c := c) (root := root) (l0 := l0) (l1 := l1) (M := M) (cm := cm) hJ1 hS1
          obtain ⟨z0, z1, z2, z3, z4, z5, z6, z7, z8⟩ := tbC (hJ1.fc q rfl).2
          obtain ⟨y0, y1, y2, y3, y4, y5, y6, y7, y8⟩ := tbF (hJ1.fc q rfl).2
          exact Eff.skip (by go_simp; rfl) ⟨hst.2.2, rfl, hst.1, hst.2.1⟩
        rintro _ rfl
        rw [show List.erase [9] 9 = [] from rfl]; simp only [Act.put]
        refine ⟨rfl, fun w1 hS1 hJ1 => ?_⟩
        go_wp2_with fail
        go_meet
        exact ⟨q, gS, gL, rfl, hJ1.1, hJ1.2, hS1⟩
      ·
        rintro _ ⟨gL, rfl⟩
        rw [show List.erase [2, 6, 7, 9] 6 = [2, 7, 9] from rfl]; simp only [Act.put, List.setIfInBounds_toArray, List.set_cons_zero, List.set_cons_succ]
        refine TxtT.weakJ (J2 := (fun w' => OfJ W1.heap.size ms none (some gL) (some q) w')) (fun w1 h => by obtain ⟨g, hg, h⟩ := h; injection hg with hg; injection hg with hg; injection hg with hg _ _; subst hg; exact h) ?_
        refine TxtT.one 2 (by as_aux_lemma => kernel_rfl) (by rw [List.getElem?_toArray]; rfl) (by rfl) (by rfl) (fun v => ∃ g, v = Value.slice (some ⟨g, 0, none⟩) ms.length ms.length) (fun v w' => ∃ g, v = Value.slice (some ⟨g, 0, none⟩) ms.length ms.length ∧ OfJ W1.heap.size ms (some g) (some gL) (some q) w') (fun w1 hS1 hJ1 => ?_) ?_
        · refine Eff.call (f := 85) (args := #[.agg #[.int .i64 N, .slice A k c, .int .i64 root, .int .i64 l0, .int .i64 l1, .slice M ms.length cm]]) (by go_simp) ((status_any N A k c root l0 l1 M ms cm w1 (hrm.below hS1) HM.out Hl.out).mono ?_)
          rintro e w' ⟨g, rfl, hg, hrow, hb3⟩
          exact ⟨_, rfl, hS1.trans (hb3.mono hS1.size), ⟨g, rfl⟩, g, rfl, OfJ.addA hJ1 hS1.size hb3 hg hrow⟩
        rintro _ ⟨gS, rfl⟩
        rw [show List.erase [2, 7, 9] 2 = [7, 9] from rfl]; simp only [Act.put, List.setIfInBounds_toArray, List.set_cons_zero, List.set_cons_succ]
        refine TxtT.weakJ (J2 := (fun w' => OfJ W1.heap.size ms (some gS) (some gL) (some q) w')) (fun w1 h => by obtain ⟨g, hg, h⟩ := h; injection hg with hg; injection hg with hg; injection hg with hg _ _; subst hg; exact h) ?_
        refine TxtT.pure 7 (by rfl) (by rw [List.getElem?_toArray]; rfl) (by rfl) (by as_aux_lemma => kernel_rfl) (by rfl) ?_; apply Exists.intro; refine ⟨fun w1 hS1 => ?_, ?_⟩; (focus (skip; go_simp; with_reducible rfl))
        rw [show List.erase [7, 9] 7 = [9] from rfl]; simp only [Act.put, List.setIfInBounds_toArray, List.set_cons_zero, List.set_cons_succ]
        refine TxtT.one 9 (by as_aux_lemma => kernel_rfl) (by rw [List.getElem?_toArray]; rfl) (by rfl) (by rfl) (fun v => v = undef) (fun _ w' => OfK W1.heap.size N A k c root l0 l1 M ms cm q gS gL 1 w' ∧ RowB w' gL ms.length (fun _ => false)) (fun w1 hS1 hJ1 => ?_) ?_
        · have hst := OfJ.store (N := N) (A := A) (k := k) (c := c) (root := root) (l0 := l0) (l1 := l1) (M := M) (cm := cm) hJ1 hS1
          obtain ⟨z0, z1, z2, z3, z4, z5, z6, z7, z8⟩ := tbC (hJ1.fc q rfl).2
          obtain ⟨y0, y1, y2, y3, y4, y5, y6, y7, y8⟩ := tbF (hJ1.fc q rfl).2
          exact Eff.skip (by go_simp; rfl) ⟨hst.2.2, rfl, hst.1, hst.2.1⟩
        rintro _ rfl
        rw [show List.erase [9] 9 = [] from rfl]; simp only [Act.put]
        refine ⟨rfl, fun w1 hS1 hJ1 => ?_⟩
        go_wp2_with fail
        go_meet
        exact ⟨q, gS, gL, rfl, hJ1.1, hJ1.2, hS1⟩
  obtain ⟨q, gS, gL, rfl, hK, hrl, hS⟩ := hcut
  have hrm1 : ∀ wx, Below W1.heap.size W1 wx → RM wx M ms := fun wx h => hrm.below h
  have Hrm := Lib.hid hrm1
  have Hb0 := Lib.hid hb0
  obtain ⟨d0, d1, d2, d3, d4, d5⟩ := dgC kd
  have Hkt := Lib.hid kt
  have hrt : w.heap.size + 1 < W1.heap.size := by omega
  have hrd : w.heap.size < W1.heap.size := by omega
  clear hrm hrm1 hb0 kt kd d0 d1 d2 d3 d4
  have z6 : wc.cell? ⟨q, 6, none⟩ = some (.slice (some ⟨gS, 0, none⟩) ms.length ms.length) := (tbC hK.blk).2.2.2.2.2.2.1
  have z7 : wc.cell? ⟨q, 7, none⟩ = some (.int .i64 1) := (tbC hK.blk).2.2.2.2.2.2.2.1
  have f7 := hK.blk.frozen 7
  have cs := hK.rs.cell hpos
  have hn0 : (0 : Int) < (ms.length : Int) := by omega
  go_upto_if 17 with fail
  go_cut [3] (fun s wx => s = Value.pointer (some ⟨q, 0, none⟩) ∧ OfK W1.heap.size N A k c root l0 l1 M ms cm q gS gL (leadr ms) wx ∧ RowB wx gL ms.length (fun _ => false) ∧ Below W1.heap.size W1 wx)
  case first =>
    by_cases h2 : stF ms 0 = 2
    · have hld : leadr ms = 2 := by unfold leadr; rw [if_pos h2]
      have Hld := Lib.hid hld
      have hb2 : (stF ms 0 == 2) = true := beq_iff_eq.2 h2
      have HK := Lib.hid (hK.lead 2)
      have Hrl := Lib.hid (show RowB (wc.setCell ⟨q, 7, none⟩ (.int .i64 2)) gL ms.length (fun _ => false) from World.rowIs.setOther hrl (a := ⟨q, 7, none⟩) hK.ql _)
      have Hb := Lib.hid (hS.setCell (p := ⟨q, 7, none⟩) hK.q0 (.int .i64 2))
      clear hK hrl hS h2 hld
      go_wp2_with fail
      go_meet
      exact ⟨rfl, by rw [Hld.out]; exact HK.out, Hrl.out, Hb.out⟩
    · have hld : leadr ms = 1 := by unfold leadr; rw [if_neg h2]
      have Hld := Lib.hid hld
      have hb2 : (stF ms 0 == 2) = false := beq_eq_false_iff_ne.2 h2
      have HK := Lib.hid hK
      have Hrl := Lib.hid hrl
      have Hb := Lib.hid hS
      clear hK hrl hS h2 hld
      go_wp2_with fail
      go_meet
      exact ⟨rfl, by rw [Hld.out]; exact HK.out, Hrl.out, Hb.out⟩
  clear z6 z7 f7 cs hK hrl hS
  obtain ⟨rfl, hK, hrl, hS⟩ := hcut
  obtain ⟨z0, z1, z2, z3, z4, z5, z6, z7, z8⟩ := tbC hK.blk
  have fz := hrl.frozen 0
  have cz := hrl.cell hpos
  have HK0 := Lib.hid (hK.set 0 (.bool true))
  have Hrl0 := Lib.hid ((hrl.set 0 true).congr (f' := fun i => if i < 1 then ldF ms i else false) fun i _ => by
    by_cases e : i = 0
    · subst e; rw [if_pos rfl, if_pos (Nat.lt_succ_self _), ld_zero]
    · rw [if_neg e, if_neg (by omega)])
  have HS0 := Lib.hid (hS.setCell (p := ⟨gL, 0, none⟩) hK.d0 (.bool true))
  have d5c := (hS.cell (p := ⟨w.heap.size, 5, none⟩) hrd).trans d5
  clear hK hrl hS z0 z1 z2 z3 z4 z5 z6
  go_wp2_with fail
  clear d5c fz cz z7 z8
  go_loopw [4] (fun t wr => ∃ j : Nat, 1 ≤ j ∧ j ≤ ms.length ∧ t = .int .i64 j ∧ OfK W1.heap.size N A k c root l0 l1 M ms cm q gS gL (leadr ms) wr ∧ RowB wr gL ms.length (fun i => if i < j then ldF ms i else false) ∧ Below W1.heap.size W1 wr) (fun t _ => ms.length - (intOf t).toNat)
  case atStart => exact ⟨1, Nat.le_refl _, hpos, rfl, HK0.out, Hrl0.out, HS0.out⟩
  case round =>
    clear HK0 Hrl0 HS0
    obtain ⟨j, hj1, hj, rfl, hK, hrl, hS⟩ := hrel
    have d5c := (hS.cell (p := ⟨w.heap.size, 5, none⟩) hrd).trans d5
    obtain ⟨z0, z1, z2, z3, z4, z5, z6, z7, z8⟩ := tbC hK.blk
    by_cases hlt : j < ms.length
    case neg =>
      obtain rfl : j = ms.length := by omega
      have Hrs := Lib.hid hK.rs
      have hrl' : RowB wr gL ms.length (ldF ms) := hrl.congr fun i hi => by rw [if_pos hi]
      have Hrl := Lib.hid hrl'
      have hkt := Hkt.out.below hS hrt
      obtain ⟨r0, r1, r2, r3, r4, r5, r6, r7, r8⟩ := tbC hkt
      obtain ⟨y0, y1, y2, y3, y4, y5, y6, y7, y8⟩ := tbF hkt
      have hsT : w.heap.size + 1 ≠ gS := by have := hK.s0; omega
      have hlT : w.heap.size + 1 ≠ gL := by have := hK.d0; omega
      have HsT := Lib.hid hsT; have HlT := Lib.hid hlT
      have HS := Lib.hid hS; have Hk2 := Lib.hid hkt
      clear hK hrl hrl' hS hkt hsT hlT
      go_wp2_with fail
      have hk2 := st9_blk Hk2.out (.int .i64 N) (.slice A k c) (.int .i64 root) (.int .i64 l0) (.int .i64 l1) (.slice M ms.length cm) (.slice (some ⟨gS, 0, none⟩) ms.length ms.length) (.int .i64 (leadr ms)) (.slice (some ⟨gL, 0, none⟩) ms.length ms.length)
      unfold st9 at hk2
      obtain ⟨x0, x1, x2, x3, x4, x5, x6, x7, x8⟩ := tbC hk2
      refine bodyPost_ret (v := .agg #[.int .i64 N, .slice A k c, .int .i64 root, .int .i64 l0, .int .i64 l1, .slice M ms.length cm, .slice (some ⟨gS, 0, none⟩) ms.length ms.length, .int .i64 (leadr ms), .slice (some ⟨gL, 0, none⟩) ms.length ms.length]) (by simp [results, Tryz.results67, go_sem, x0, x1, x2, x3, x4, x5, x6, x7, x8]) rfl ?_
      exact ⟨gS, gL, rfl, st9_row Hrs.out (fun e => HsT.out e.symm) .., st9_row Hrl.out (fun e => HlT.out e.symm) .., st9_below (Hb0.out.trans (HS.out.mono (by omega))) (by omega) ..⟩
    case pos =>
    have hj0 : 0 < j := hj1
    obtain ⟨ht, htk⟩ := HM.out.tg hj0 hlt
    have hjz : (0 : Int) ≤ (j : Int) := by omega
    have hjl : (j : Int) < (ms.length : Int) := by omega
    have htz : (0 : Int) ≤ (tg ms j : Int) := by omega
    have htl : (tg ms j : Int) < (ms.length : Int) := by omega
    have htn : tg ms j < ms.length := by omega
    obtain ⟨b, o, rfl, e0, e1, e2, e3⟩ := (Hrm.out wr hS) j hlt
    rw [ht] at e3
    have cs := hK.rs.cell hlt
    have cl := hrl.cell htn
    rw [if_pos htk] at cl
    have hle := ld_eq HM.out hj0 hlt
    have Hle := Lib.hid hle
    have Ht := Lib.hid ht
    clear hle ht
    have Hstep : ∀ (x : Bool) (wx : World), RowB wx gL ms.length (fun i => if i = j then x else if i < j then ldF ms i else false) → ldF ms j = x → RowB wx gL ms.length (fun i => if i < j + 1 then ldF ms i else false) := fun x wx h e => h.congr fun i _ => by
      by_cases e1 : i = j
      · subst e1; rw [if_pos rfl, if_pos (Nat.lt_succ_self _), e]
      · rw [if_neg e1]
        by_cases e2 : i < j
        · rw [if_pos e2, if_pos (show i < j + 1 by omega)]
        · rw [if_neg e2, if_neg (show ¬ i < j + 1 by omega)]
    have Hno : ldF ms j = false → RowB wr gL ms.length (fun i => if i < j + 1 then ldF ms i else false) := fun e => hrl.congr fun i _ => by
      by_cases e1 : i = j
      · subst e1; rw [if_neg (Nat.lt_irrefl _), if_pos (Nat.lt_succ_self _), e]
      · by_cases e2 : i < j
        · rw [if_pos e2, if_pos (show i < j + 1 by omega)]
        · rw [if_neg e2, if_neg (show ¬ i < j + 1 by omega)]
    have HKw := Lib.hid hK; have Hrl := Lib.hid hrl; have HSw := Lib.hid hS
    have HH1 := Lib.hid Hstep; have HH2 := Lib.hid Hno
    clear hK hrl hS Hstep Hno
    cases ha : (stF ms j == 0)
    case true =>
      have Hf := Lib.hid (HH2.out (by rw [Hle.out, ha]; rfl))
      go_wp2_with fail
      go_quiet (fail)
      go_wp2_with fail
      go_roundw
      case rel => exact ⟨j + 1, by omega, by omega, by go_num, HKw.out.below (below_drewN (Below.refl _ _) _), Hf.out, below_drewN HSw.out _⟩
      case measure => simp [intOf]; omega
    case false =>
    cases hb : ldF ms (tg ms j)
    case false =>
      rw [hb] at cl
      have Hf := Lib.hid (HH2.out (by rw [Hle.out, hb]; simp))
      go_wp2_with fail
      go_quiet (fail)
      go_wp2_with fail
      go_roundw
      case rel => exact ⟨j + 1, by omega, by omega, by go_num, HKw.out.below (below_drewN (Below.refl _ _) _), Hf.out, below_drewN HSw.out _⟩
      case measure => simp [intOf]; omega
    case true =>
    rw [hb] at cl
    have hval : ldF ms j = ((mv ms (tg ms j)).1 == leadr ms || stF ms j == 1) := by rw [Hle.out, hb, ha]; rfl
    have Hval := Lib.hid hval
    clear hval
    go_wp2_with fail
    go_quiet (fail)
    clear z0 z1 z2 z3 z4 z5 z6 z7 z8 cs cl e0 e1 e2 e3 d5c
    have HKd := HKw.out.below (below_drewN (Below.refl _ _) nq)
    have HSd := below_drewN HSw.out nq
    have Hrd : RowB (wr.drewN nq) gL ms.length (fun i => if i < j then ldF ms i else false) := Hrl.out
    generalize wr.drewN nq = wq at *
    clear HKw HSw Hrl HH2
    go_upto_region 9 with fail
    cases hd : ((mv ms (tg ms j)).1 == leadr ms)
    · have Hd := Lib.hid hd
      refine wp_region_textB [26] (fun w' => OfK W1.heap.size N A k c root l0 l1 (some ⟨b, o, none⟩) ms cm q gS gL (leadr ms) w' ∧ Below W1.heap.size W1 w') (fun w' => RowB w' gL ms.length (fun i => if i < j then ldF ms i else false)) (by kernel_rfl) (by kernel_rfl) (by kernel_rfl) ⟨HKd.below (below_drewN (Below.refl _ _) 1), below_drewN HSd 1⟩ Hrd ?_
      repeat (first
        | (refine TxtBL.skip (by rfl) ?_; simp only [Act.put, List.setIfInBounds_toArray, List.set_cons_zero, List.set_cons_succ])
        | (refine TxtBL.take (by rfl) (by rfl) ?_; apply Exists.intro; refine ⟨fun w1 hS1 => ?_, ?_⟩; (focus ((obtain ⟨z0, z1, z2, z3, z4, z5, z6, z7, z8⟩ := tbC hS1.1.blk); (have cs1 := hS1.1.rs.cell hlt); (have d5w := (hS1.2.cell (p := ⟨w.heap.size, 5, none⟩) hrd).trans d5); (obtain ⟨m0, m1, m2, m3⟩ := RM.cells (Hrm.out _ hS1.2) hlt); (rw [Ht.out] at m3); (obtain ⟨n0, n1, n2, n3⟩ := RM.cells (Hrm.out _ hS1.2) htn); go_simp; with_reducible rfl)); simp only [Act.put, List.setIfInBounds_toArray, List.set_cons_zero, List.set_cons_succ])
        | (refine TxtBL.takeE (by rfl) (by rfl) ?_; apply Exists.intro; refine ⟨fun w1 hS1 => ?_, ?_⟩; (focus ((obtain ⟨z0, z1, z2, z3, z4, z5, z6, z7, z8⟩ := tbC hS1.1.blk); (have cs1 := hS1.1.rs.cell hlt); (have d5w := (hS1.2.cell (p := ⟨w.heap.size, 5, none⟩) hrd).trans d5); (obtain ⟨m0, m1, m2, m3⟩ := RM.cells (Hrm.out _ hS1.2) hlt); (rw [Ht.out] at m3); (obtain ⟨n0, n1, n2, n3⟩ := RM.cells (Hrm.out _ hS1.2) htn); go_simp; with_reducible rfl)); simp only [Act.put, List.setIfInBounds_toArray, List.set_cons_zero, List.set_cons_succ]))
      refine TxtBL.eff (fun u => u = undef) (fun _ w' => RowB w' gL ms.length (fun i => if i = j then (stF ms j == 1) else if i < j then ldF ms i else false)) (by rfl) (by rfl) ⟨_, rfl⟩ (fun w2 hS1 hJ1 => ?_) ?_
      · have cz := hJ1.cell hlt
        have fz := hJ1.frozen j
        exact Eff.skip (w' := w2.setCell ⟨gL, j, none⟩ (.bool (stF ms j == 1))) (by go_simp) ⟨⟨hS1.1.set j _, hS1.2.setCell (p := ⟨gL, j, none⟩) hS1.1.d0 _⟩, rfl, hJ1.set j _⟩
      rintro v rfl
      simp only [Act.put]
      refine TxtBL.nil (fun w2 hS hJ => ?_)
      have HK2 := Lib.hid hS.1; have HS2 := Lib.hid hS.2
      have Hr2 := Lib.hid (HH1.out _ _ hJ (by rw [Hval.out, Hd.out]; exact Bool.false_or _))
      clear hS hJ HKd HSd Hrd hd
      go_wp2_with fail
      go_roundw
      case rel => exact ⟨j + 1, by omega, by omega, by go_num, HK2.out, Hr2.out, HS2.out⟩
      case measure => simp [intOf]; omega
    · have Hd := Lib.hid hd
      refine wp_region_textB [26] (fun w' => OfK W1.heap.size N A k c root l0 l1 (some ⟨b, o, none⟩) ms cm q gS gL (leadr ms) w' ∧ Below W1.heap.size W1 w') (fun w' => RowB w' gL ms.length (fun i => if i < j then ldF ms i else false)) (by kernel_rfl) (by kernel_rfl) (by kernel_rfl) ⟨HKd.below (below_drewN (Below.refl _ _) 1), below_drewN HSd 1⟩ Hrd ?_
      repeat (first
        | (refine TxtBL.skip (by rfl) ?_; simp only [Act.put, List.setIfInBounds_toArray, List.set_cons_zero, List.set_cons_succ])
        | (refine TxtBL.take (by rfl) (by rfl) ?_; apply Exists.intro; refine ⟨fun w1 hS1 => ?_, ?_⟩; (focus ((obtain ⟨z0, z1, z2, z3, z4, z5, z6, z7, z8⟩ := tbC hS1.1.blk); (have cs1 := hS1.1.rs.cell hlt); (have d5w := (hS1.2.cell (p := ⟨w.heap.size, 5, none⟩) hrd).trans d5); (obtain ⟨m0, m1, m2, m3⟩ := RM.cells (Hrm.out _ hS1.2) hlt); (rw [Ht.out] at m3); (obtain ⟨n0, n1, n2, n3⟩ := RM.cells (Hrm.out _ hS1.2) htn); go_simp; with_reducible rfl)); simp only [Act.put, List.setIfInBounds_toArray, List.set_cons_zero, List.set_cons_succ])
        | (refine TxtBL.takeE (by rfl) (by rfl) ?_; apply Exists.intro; refine ⟨fun w1 hS1 => ?_, ?_⟩; (focus ((obtain ⟨z0, z1, z2, z3, z4, z5, z6, z7, z8⟩ := tbC hS1.1.blk); (have cs1 := hS1.1.rs.cell hlt); (have d5w := (hS1.2.cell (p := ⟨w.heap.size, 5, none⟩) hrd).trans d5); (obtain ⟨m0, m1, m2, m3⟩ := RM.cells (Hrm.out _ hS1.2) hlt); (rw [Ht.out] at m3); (obtain ⟨n0, n1, n2, n3⟩ := RM.cells (Hrm.out _ hS1.2) htn); go_simp; with_reducible rfl)); simp only [Act.put, List.setIfInBounds_toArray, List.set_cons_zero, List.set_cons_succ]))
      refine TxtBL.eff (fun u => u = undef) (fun _ w' => RowB w' gL ms.length (fun i => if i = j then true else if i < j then ldF ms i else false)) (by rfl) (by rfl) ⟨_, rfl⟩ (fun w2 hS1 hJ1 => ?_) ?_
      · have cz := hJ1.cell hlt
        have fz := hJ1.frozen j
        exact Eff.skip (w' := w2.setCell ⟨gL, j, none⟩ (.bool true)) (by go_simp) ⟨⟨hS1.1.set j _, hS1.2.setCell (p := ⟨gL, j, none⟩) hS1.1.d0 _⟩, rfl, hJ1.set j _⟩
      rintro v rfl
      simp only [Act.put]
      refine TxtBL.nil (fun w2 hS hJ => ?_)
      have HK2 := Lib.hid hS.1; have HS2 := Lib.hid hS.2
      have Hr2 := Lib.hid (HH1.out _ _ hJ (by rw [Hval.out, Hd.out]; exact Bool.true_or _))
      clear hS hJ HKd HSd Hrd hd
      go_wp2_with fail
      go_roundw
      case rel => exact ⟨j + 1, by omega, by omega, by go_num, HK2.out, Hr2.out, HS2.out⟩
      case measure => simp [intOf]; omega
end Go.Proofs.YthkknlnfdckdfaaGreatDoor

/- Package protocol: moved, legal, end; End, Turn, Legal. -/
namespace Go.Proofs.YthkknlnfdckdfaaGreatDoor
open Go.ChangeShapes Go.WideShapes Go.ChangeAt Go.RowKit

set_option maxRecDepth 100000 in
set_option maxHeartbeats 4000000 in
theorem moved_any (N : Int) (A : Option Addr) (k c : Nat) (root l0 l1 : Int) (M : Option Addr) (ms : List Mv) (cm : Nat) (S : Option Addr) (sk sc : Nat) (ld : Int) (L : Option Addr) (lk lc : Nat) (i : Nat) (x : Int) (w : World) (hr : RM w M ms) (hm : OkM ms) (hi : i < ms.length) :
    Calls Tryz.prog 111 #[.agg #[.int .i64 N, .slice A k c, .int .i64 root, .int .i64 l0, .int .i64 l1, .slice M ms.length cm, .slice S sk sc, .int .i64 ld, .slice L lk lc], .int .i64 (i : Int), .int .i64 x] w (RetB (.bool (mvdF ms x i)) w) := by
  have HM := Lib.hid hm
  clear hm
  go_enter Tryz.func111, Tryz.ntmps111
  go_upto_region 1 with fail
  obtain ⟨W0, hW, k0, hb0, hs0⟩ := boxedA w 120 #[.int .i64 N, .slice A k c, .int .i64 root, .int .i64 l0, .int .i64 l1, .slice M ms.length cm, .slice S sk sc, .int .i64 ld, .slice L lk lc]
  rw [hW]
  have c5 : W0.cell? ⟨w.heap.size, 5, none⟩ = some (.slice M ms.length cm) := k0.cell 5
  have hr0 := hr.below hb0
  clear hW k0 hr hs0
  go_loopw [1] (fun t wr => ∃ j : Nat, j < ms.length ∧ t = .int .i64 j ∧ mvdF ms x j = mvdF ms x i ∧ Below W0.heap.size W0 wr) (fun t _ => (intOf t).toNat)
  case atStart => exact ⟨i, hi, rfl, rfl, Below.refl _ _⟩
  case round =>
    obtain ⟨j, hj, rfl, he, hbl⟩ := hrel
    have He := Lib.hid he; clear he
    have c5w := (hbl.cell (lt_of_cell c5)).trans c5
    obtain ⟨b, o, rfl, e0, e1, e2, e3⟩ := (hr0.below hbl) j hj
    have hj0 : (0 : Int) ≤ (j : Int) := by omega
    have hj1 : (j : Int) < (ms.length : Int) := by omega
    have hsz := hbl.size
    cases ho : ownB ms x j
    case true =>
      have hv : mvdF ms x j = true := by
        rcases Nat.eq_zero_or_pos j with h0 | h0
        · subst h0; rw [mvd_zero]; exact ho
        · rw [mvd_eq HM.out x h0 hj, ho]; rfl
      have Hv := Lib.hid hv; clear hv
      unfold ownB at ho
      rw [Bool.and_eq_true] at ho
      obtain ⟨ho1, ho2⟩ := ho
      go_wp2_with fail
      go_ret
      exact ⟨rb (by rw [← He.out, Hv.out]), endB hb0 (hbl.alloc hsz _)⟩
    case false =>
    rcases Nat.eq_zero_or_pos j with h0 | h0
    · subst h0
      have hv : mvdF ms x 0 = false := by rw [mvd_zero]; exact ho
      simp only [Nat.zero_mul, Nat.add_zero] at e0 e1 e2 e3
      have Hv := Lib.hid hv; clear hv
      unfold ownB at ho
      rw [Bool.and_eq_false_iff] at ho
      cases h1 : ((mv ms 0).1 == 1)
      · clear ho
        go_wp2_with fail
        go_ret
        exact ⟨rb (by rw [← He.out, Hv.out]), endB hb0 (hbl.alloc hsz _)⟩
      · have h2 : ((mv ms 0).2.2.1 == x) = false := by
          rcases ho with ho | ho
          · rw [h1] at ho; cases ho
          · exact ho
        clear ho
        go_wp2_with fail
        go_ret
        exact ⟨rb (by rw [← He.out, Hv.out]), endB hb0 (hbl.alloc hsz _)⟩
    · obtain ⟨ht, htk⟩ := HM.out.tg h0 hj
      have hv : mvdF ms x (tg ms j) = mvdF ms x j := by rw [mvd_eq HM.out x h0 hj, ho]; rfl
      have Hv := Lib.hid hv; clear hv
      have hjn : ((j : Int) == 0) = false := beq_eq_false_iff_ne.2 (by omega)
      rw [ht] at e3
      unfold ownB at ho
      rw [Bool.and_eq_false_iff] at ho
      clear ht
      cases h1 : ((mv ms j).1 == 1)
      · clear ho
        go_wp2_with fail
        go_roundw
        case rel => exact ⟨tg ms j, by omega, rfl, by rw [Hv.out, He.out], hbl.alloc hsz _⟩
        case measure => simp [intOf]; omega
      · have h2 : ((mv ms j).2.2.1 == x) = false := by
          rcases ho with ho | ho
          · rw [h1] at ho; cases ho
          · exact ho
        clear ho
        go_wp2_with fail
        go_roundw
        case rel => exact ⟨tg ms j, by omega, rfl, by rw [Hv.out, He.out], hbl.alloc hsz _⟩
        case measure => simp [intOf]; omega
def legQ (l : List (Int × Int)) (ms : List Mv) (j q : Nat) : List Mv := ((l.take q).filter (lgB ms j)).map fun p => (3 - leadr ms, 2, p.1, (j : Int))
theorem legQ_zero (l : List (Int × Int)) (ms : List Mv) (j : Nat) : legQ l ms j 0 = [] := by unfold legQ; simp
theorem legQ_hit {l : List (Int × Int)} {ms : List Mv} {j q : Nat} (h : q < l.length) (hb : lgB ms j l[q] = true) : legQ l ms j (q + 1) = legQ l ms j q ++ [(3 - leadr ms, 2, l[q].1, (j : Int))] := by
  unfold legQ
  rw [List.take_succ_eq_append_getElem h, List.filter_append, List.map_append]
  simp [hb]
theorem legQ_miss {l : List (Int × Int)} {ms : List Mv} {j q : Nat} (h : q < l.length) (hb : lgB ms j l[q] = false) : legQ l ms j (q + 1) = legQ l ms j q := by
  unfold legQ
  rw [List.take_succ_eq_append_getElem h, List.filter_append, List.map_append]
  simp [hb]
theorem legQ_all (l : List (Int × Int)) {ms : List Mv} {j : Nat} (h : (ldF ms j && (mv ms j).1 == leadr ms) = true) : legQ l ms j l.length = legAt l ms j := by
  unfold legQ legAt
  rw [if_pos h, List.take_length]
theorem legQ_len (l : List (Int × Int)) (ms : List Mv) (j q : Nat) : (legQ l ms j q).length ≤ l.length := by
  unfold legQ
  rw [List.length_map]
  have := List.length_filter_le (lgB ms j) (l.take q)
  rw [List.length_take] at this; omega
set_option maxRecDepth 100000 in
set_option maxHeartbeats 8000000 in
theorem tLegal_any (N : Int) (A : Option Addr) (l : List (Int × Int)) (c : Nat) (root l0 l1 : Int) (M : Option Addr) (ms : List Mv) (cm : Nat) (S : Option Addr) (sk sc gL : Nat) (w : World) (hp : RP w A l) (hr : RM w M ms) (hm : OkM ms) (hl : ms.length ≤ 300) (hll : l.length ≤ 1600) (hrl : RowB w gL ms.length (ldF ms)) :
    Calls Tryz.prog 87 #[.agg #[.int .i64 N, .slice A l.length c, .int .i64 root, .int .i64 l0, .int .i64 l1, .slice M ms.length cm, .slice S sk sc, .int .i64 (leadr ms), .slice (some ⟨gL, 0, none⟩) ms.length ms.length]] w (RetMn (legL l ms) w) := by
  have HM := Lib.hid hm
  have hlen : ∀ j, j ≤ ms.length → (legR l ms j).length ≤ 300 * 1600 := fun j hj => Nat.le_trans (legR_len l ms j) (Nat.mul_le_mul (by omega) hll)
  have Hlen := Lib.hid hlen
  clear hm hlen
  go_enter Tryz.func87, Tryz.ntmps87
  go_upto_region 1 with fail
  obtain ⟨W0, hW, k0, hb0, hs0⟩ := boxedA w 120 #[.int .i64 N, .slice A l.length c, .int .i64 root, .int .i64 l0, .int .i64 l1, .slice M ms.length cm, .slice S sk sc, .int .i64 (leadr ms), .slice (some ⟨gL, 0, none⟩) ms.length ms.length]
  rw [hW]
  have hr0 := hr.below hb0
  have hp0 := hp.below hb0
  have hrl0 := hrl.below hb0
  obtain ⟨z0, z1, z2, z3, z4, z5, z6, z7, z8⟩ := tbC k0
  clear hW hr hp hrl hs0 k0
  have Hb0 := Lib.hid hb0
  have HrA := Lib.hid hr0; have HpA := Lib.hid hp0; have HlA := Lib.hid hrl0
  have hg0 : w.heap.size < W0.heap.size := lt_of_cell z0
  clear hb0 hr0 hp0 hrl0
  generalize hG : w.heap.size = G at *
  have HG := Lib.hid hG
  clear hG
  go_wp2_with fail
  refine (other_any (leadr ms) W0 (leadr_12 ms)).mono ?_
  rintro e w1 ⟨rfl, rfl⟩
  go_wp2_with fail
  go_loopw [4, 17] (fun v t wr => ∃ j : Nat, j ≤ ms.length ∧ t = .int .i64 j ∧ OwnM wr W0.heap.size v (legR l ms j) ∧ Below W0.heap.size W0 wr) (fun _ t _ => ms.length - (intOf t).toNat)
  case atStart => exact ⟨0, Nat.zero_le _, rfl, OwnM.nil _ _, Below.refl _ _⟩
  case round =>
    obtain ⟨j, hj, rfl, hown, hbl⟩ := hrel
    by_cases hlt : j < ms.length
    case neg =>
      obtain rfl : j = ms.length := by omega
      obtain ⟨A4, c4, rfl, _, _⟩ := hown.form
      have Hown := Lib.hid hown
      have Hbl := Lib.hid hbl
      clear hown hbl
      go_wp2_with fail
      go_ret
      refine ⟨A4, c4, rfl, ?_, ?_⟩
      · have h1 := Hown.out; have h2 := Hb0.out; have h3 := h2.size; rw [HG.out] at h3 ⊢; exact h1.mono h3
      · have h2 := Hb0.out; have h3 := h2.size; rw [HG.out] at h3 ⊢; exact h2.trans (Hbl.out.mono h3)
    case pos =>
    have hjz : (0 : Int) ≤ (j : Int) := by omega
    have hjl : (j : Int) < (ms.length : Int) := by omega
    have hlenj := Hlen.out j hj
    obtain ⟨b, o, rfl, e0, e1, e2, e3⟩ := (HrA.out.below hbl) j hlt
    have cl := (HlA.out.below hbl).cell hlt
    have y0 := (hbl.cell (lt_of_cell z0)).trans z0
    have y1 := (hbl.cell (lt_of_cell z1)).trans z1
    have y5 := (hbl.cell (lt_of_cell z5)).trans z5
    have y7 := (hbl.cell (lt_of_cell z7)).trans z7
    have y8 := (hbl.cell (lt_of_cell z8)).trans z8
    go_upto_region 6 with fail
    obtain ⟨wa, hwa, ka, hba, hsa⟩ := boxedA wr 89 #[.int .i64 (mv ms j).1, .int .i64 (mv ms j).2.1, .int .i64 (mv ms j).2.2.1, .int .i64 (mv ms j).2.2.2]
    rw [hwa]
    clear hwa
    have owna := hown.below hba
    have hbla : Below W0.heap.size W0 wa := hbl.trans (hba.mono hbl.size)
    have a0 : wa.cell? ⟨wr.heap.size, 0, none⟩ = some (.int .i64 (mv ms j).1) := ka.cell 0
    have a2 : wa.cell? ⟨wr.heap.size, 2, none⟩ = some (.int .i64 (mv ms j).2.2.1) := ka.cell 2
    have x0 := (hba.cell (lt_of_cell y0)).trans y0
    have x1 := (hba.cell (lt_of_cell y1)).trans y1
    have x5 := (hba.cell (lt_of_cell y5)).trans y5
    have x7 := (hba.cell (lt_of_cell y7)).trans y7
    have x8 := (hba.cell (lt_of_cell y8)).trans y8
    have cla := (hba.cell (lt_of_cell cl)).trans cl
    have hra := lt_of_cell a0
    have hrw : W0.heap.size ≤ wr.heap.size := hbl.size
    have hvga := fun k hk => (World.ownsRow.lt hown k hk).2
    have hgaw : W0.heap.size ≤ wr.heap.size := hbl.size
    have Hka := Lib.hid ka
    clear hown hbl ka hba hsa y0 y1 y5 y7 y8 cl e0 e1 e2 e3
    generalize wr.heap.size = ga at *
    obtain ⟨wo, hwo⟩ : ∃ wo, wo = wr := ⟨_, rfl⟩
    subst hwo
    cases hld : ldF ms j
    case false =>
      have he : legR l ms (j + 1) = legR l ms j := by
        rw [legR]; unfold legAt; rw [hld]; simp
      rw [hld] at cla
      have He := Lib.hid he; have Own := Lib.hid owna
      clear he owna
      go_wp2_with fail
      go_roundw
      case rel => exact ⟨j + 1, by omega, by go_num, by rw [He.out]; exact Own.out, hbla⟩
      case measure => simp [intOf]; omega
    case true =>
    rw [hld] at cla
    cases hby : ((mv ms j).1 == leadr ms)
    case false =>
      have he : legR l ms (j + 1) = legR l ms j := by
        rw [legR]; unfold legAt; rw [hld, hby]; simp
      have hne : ((mv ms j).1 != leadr ms) = true := by unfold bne; rw [hby]; rfl
      have He := Lib.hid he; have Own := Lib.hid owna
      clear he owna hby
      go_wp2_with fail
      go_roundw
      case rel => exact ⟨j + 1, by omega, by go_num, by rw [He.out]; exact Own.out, hbla⟩
      case measure => simp [intOf]; omega
    case true =>
    have he : legR l ms (j + 1) = legR l ms j ++ legQ l ms j l.length := by
      rw [legR, legQ_all l (by rw [hld, hby]; rfl)]
    have hne : ((mv ms j).1 != leadr ms) = false := by unfold bne; rw [hby]; rfl
    have He := Lib.hid he; have Own := Lib.hid owna
    clear he owna hby hld
    go_wp2_with fail
    go_loopw [4, 40] (fun v t wx => ∃ q : Nat, q ≤ l.length ∧ t = .int .i64 q ∧ OwnM wx W0.heap.size v (legR l ms j ++ legQ l ms j q) ∧ Blk wx ga 89 #[.int .i64 (mv ms j).1, .int .i64 (mv ms j).2.1, .int .i64 (mv ms j).2.2.1, .int .i64 (mv ms j).2.2.2] ∧ v.ownBlock ≠ some ga ∧ Below W0.heap.size W0 wx) (fun _ t _ => l.length - (intOf t).toNat)
    case atStart => exact ⟨0, Nat.zero_le _, rfl, by rw [legQ_zero, List.append_nil]; exact Own.out, Hka.out, (fun e => by have := hvga _ e; omega), hbla⟩
    case round =>
      clear Own Hka
      obtain ⟨q, hq, rfl, hown, hkg, hvg, hbw⟩ := hrel
      by_cases hql : q < l.length
      case neg =>
        obtain rfl : q = l.length := by omega
        have Hown := Lib.hid hown; have Hbw := Lib.hid hbw
        clear hown hbw
        go_wp2_with fail
        go_roundw
        case rel => exact ⟨j + 1, by omega, by go_num, by rw [He.out]; exact Hown.out, Hbw.out⟩
        case measure => simp [intOf]; omega
      case pos =>
      have hqz : (0 : Int) ≤ (q : Int) := by omega
      have hqlz : (q : Int) < (l.length : Int) := by omega
      obtain ⟨b2, o2, rfl, p0, p1⟩ := (HpA.out.below hbw).at_ hql
      have Hlq := Lib.hid (show (legR l ms j ++ legQ l ms j q).length ≤ 500000 by
        rw [List.length_append]
        have := legQ_len l ms j q; omega)
      have Hvg := Lib.hid hvg
      clear hvg
      go_upto_region 11 with fail
      obtain ⟨wb, hwb, kp, kx, hbb, hsb⟩ := boxed2A wr 43 89 #[.int .i64 l[q].1, .int .i64 l[q].2] #[.int .i64 (3 - leadr ms), .int .i64 2, .int .i64 l[q].1, .int .i64 (j : Int)]
      rw [hwb]
      clear hwb
      have ownb := hown.below hbb
      have hbwb : Below W0.heap.size W0 wb := hbw.trans (hbb.mono hbw.size)
      have hkgb := hkg.below hbb hkg.lt
      have hcp : ∀ i, wb.cell? ⟨G, i, none⟩ = W0.cell? ⟨G, i, none⟩ := fun i => hbwb.cell (p := ⟨G, i, none⟩) hg0
      have s0 := (hcp 0).trans z0
      have s1 := (hcp 1).trans z1
      have s2 := (hcp 2).trans z2
      have s3 := (hcp 3).trans z3
      have s4 := (hcp 4).trans z4
      have s5 := (hcp 5).trans z5
      have s6 := (hcp 6).trans z6
      have s7 := (hcp 7).trans z7
      have s8 := (hcp 8).trans z8
      have t2 : wb.cell? ⟨ga, 2, none⟩ = some (.int .i64 (mv ms j).2.2.1) := hkgb.cell 2
      have p0 : wb.cell? ⟨wr.heap.size, 0, none⟩ = some (.int .i64 l[q].1) := kp.cell 0
      have p1 : wb.cell? ⟨wr.heap.size, 1, none⟩ = some (.int .i64 l[q].2) := kp.cell 1
      have q0 : wb.cell? ⟨wr.heap.size + 1, 0, none⟩ = some (.int .i64 (3 - leadr ms)) := kx.cell 0
      have q1 : wb.cell? ⟨wr.heap.size + 1, 1, none⟩ = some (.int .i64 2) := kx.cell 1
      have q2 : wb.cell? ⟨wr.heap.size + 1, 2, none⟩ = some (.int .i64 l[q].1) := kx.cell 2
      have q3 : wb.cell? ⟨wr.heap.size + 1, 3, none⟩ = some (.int .i64 (j : Int)) := kx.cell 3
      have Hrb := Lib.hid (HrA.out.below hbwb)
      have Own := Lib.hid ownb; have Hbw := Lib.hid hbwb; have Kga := Lib.hid hkgb
      clear hown hbw hbb kp kx hcp hsb ownb hbwb hkgb hkg
      generalize wr.heap.size = gp at *
      cases hto : (l[q].2 == (mv ms j).2.2.1)
      case false =>
        have hmiss : legQ l ms j (q + 1) = legQ l ms j q := legQ_miss hql (by unfold lgB; rw [hto]; rfl)
        have hne : (l[q].2 != (mv ms j).2.2.1) = true := by unfold bne; rw [hto]; rfl
        have Hm := Lib.hid hmiss
        clear hmiss hto
        go_wp2_with fail
        go_roundw
        case rel => exact ⟨q + 1, by omega, by go_num, by rw [Hm.out]; exact Own.out, Kga.out, Hvg.out, Hbw.out⟩
        case measure => simp [intOf]; omega
      case true =>
      have hne : (l[q].2 != (mv ms j).2.2.1) = false := by unfold bne; rw [hto]; rfl
      have Hto := Lib.hid hto
      clear hto
      go_wp2_with fail
      refine (containsM_any (some ⟨b, o, none⟩) ms cm ((3 - leadr ms, 2, l[q].1, (j : Int)) : Mv) wb Hrb.out (by omega)).mono ?_
      rintro e w2 ⟨rfl, hb2⟩
      have s0 := (hb2.cell (lt_of_cell s0)).trans s0
      have s1 := (hb2.cell (lt_of_cell s1)).trans s1
      have s2 := (hb2.cell (lt_of_cell s2)).trans s2
      have s3 := (hb2.cell (lt_of_cell s3)).trans s3
      have s4 := (hb2.cell (lt_of_cell s4)).trans s4
      have s5 := (hb2.cell (lt_of_cell s5)).trans s5
      have s6 := (hb2.cell (lt_of_cell s6)).trans s6
      have s7 := (hb2.cell (lt_of_cell s7)).trans s7
      have s8 := (hb2.cell (lt_of_cell s8)).trans s8
      have p0 := (hb2.cell (lt_of_cell p0)).trans p0
      have q0 := (hb2.cell (lt_of_cell q0)).trans q0
      have q1 := (hb2.cell (lt_of_cell q1)).trans q1
      have q2 := (hb2.cell (lt_of_cell q2)).trans q2
      have q3 := (hb2.cell (lt_of_cell q3)).trans q3
      have Own2 := Lib.hid (Own.out.below hb2); have Hbw2 := Lib.hid (Hbw.out.trans (hb2.mono Hbw.out.size)); have Hr2 := Lib.hid (Hrb.out.below hb2); have Kga2 := Lib.hid (Kga.out.below hb2 Kga.out.lt)
      clear hb2 Own Hbw Hrb Kga
      cases hco : ms.contains ((3 - leadr ms, 2, l[q].1, (j : Int)) : Mv)
      case true =>
        have hmiss : legQ l ms j (q + 1) = legQ l ms j q := legQ_miss hql (by unfold lgB; rw [Hto.out, hco]; rfl)
        have Hm := Lib.hid hmiss
        clear hmiss hco
        go_wp2_with fail
        go_roundw
        case rel => exact ⟨q + 1, by omega, by go_num, by rw [Hm.out]; exact Own2.out, Kga2.out, Hvg.out, Hbw2.out⟩
        case measure => simp [intOf]; omega
      case false =>
      have Hco := Lib.hid hco
      clear hco
      cases hbe : (3 - leadr ms == 1)
      case false =>
        have Hhit := Lib.hid (legQ_hit hql (show lgB ms j l[q] = true by unfold lgB; rw [Hto.out, Hco.out, hbe]; rfl))
        go_wp2_with (at_builtin; refine wpList_appM2 (by rfl) _ _ (by rfl) w2 W0.heap.size _ _ ((3 - leadr ms, 2, l[q].1, (j : Int)) : Mv) Own2.out (by rfl) (by rfl) (by have := Hlq.out; omega) Hbw2.out.size ?_; intro v' w4 hown' hb4 hg4 hv4)
        have Own4 := Lib.hid hown'; have Hb4 := Lib.hid (Hbw2.out.trans hb4); have Kga4 := Lib.hid (Kga2.out.grown hg4 (fun e => Hvg.out e.symm))
        have Hv4 := Lib.hid (show v'.ownBlock ≠ some ga from fun e => by
          rcases hv4 with h | h
          · exact Hvg.out (h ▸ e)
          · have := h ga e; have := Kga2.out.lt; omega)
        clear hown' hb4 hg4 hv4
        go_roundw
        case rel => exact ⟨q + 1, by omega, by go_num, by rw [Hhit.out, ← List.append_assoc]; exact Own4.out, Kga4.out, Hv4.out, Hb4.out⟩
        case measure => simp [intOf]; omega
      case true =>
      have Hbe := Lib.hid hbe
      go_wp2_with fail
      clear hbe
      refine (moved_any N (some ⟨b2, o2, none⟩) l.length c root l0 l1 (some ⟨b, o, none⟩) ms cm S sk sc (leadr ms) (some ⟨gL, 0, none⟩) ms.length ms.length j l[q].1 w2 Hr2.out HM.out hlt).mono ?_
      rintro e w3 ⟨rfl, hb3⟩
      have p0 := (hb3.cell (lt_of_cell p0)).trans p0
      have q0 := (hb3.cell (lt_of_cell q0)).trans q0
      have q1 := (hb3.cell (lt_of_cell q1)).trans q1
      have q2 := (hb3.cell (lt_of_cell q2)).trans q2
      have q3 := (hb3.cell (lt_of_cell q3)).trans q3
      have Own3 := Lib.hid (Own2.out.below hb3); have Hbw3 := Lib.hid (Hbw2.out.trans (hb3.mono Hbw2.out.size)); have Kga3 := Lib.hid (Kga2.out.below hb3 Kga2.out.lt)
      clear hb3 Own2 Hbw2 Hr2 Kga2
      cases hmd : mvdF ms l[q].1 j
      case true =>
        have hmiss : legQ l ms j (q + 1) = legQ l ms j q := legQ_miss hql (by unfold lgB; rw [Hto.out, Hco.out, Hbe.out, hmd]; rfl)
        have Hm := Lib.hid hmiss
        clear hmiss hmd
        go_wp2_with fail
        go_roundw
        case rel => exact ⟨q + 1, by omega, by go_num, by rw [Hm.out]; exact Own3.out, Kga3.out, Hvg.out, Hbw3.out⟩
        case measure => simp [intOf]; omega
      case false =>
        have Hhit := Lib.hid (legQ_hit hql (show lgB ms j l[q] = true by unfold lgB; rw [Hto.out, Hco.out, Hbe.out, hmd]; rfl))
        clear hmd
        go_wp2_with (at_builtin; refine wpList_appM2 (by rfl) _ _ (by rfl) w3 W0.heap.size _ _ ((3 - leadr ms, 2, l[q].1, (j : Int)) : Mv) Own3.out (by rfl) (by rfl) (by have := Hlq.out; omega) Hbw3.out.size ?_; intro v' w4 hown' hb4 hg4 hv4)
        have Own4 := Lib.hid hown'; have Hb4 := Lib.hid (Hbw3.out.trans hb4); have Kga4 := Lib.hid (Kga3.out.grown hg4 (fun e => Hvg.out e.symm))
        have Hv4 := Lib.hid (show v'.ownBlock ≠ some ga from fun e => by
          rcases hv4 with h | h
          · exact Hvg.out (h ▸ e)
          · have := h ga e; have := Kga3.out.lt; omega)
        clear hown' hb4 hg4 hv4
        go_roundw
        case rel => exact ⟨q + 1, by omega, by go_num, by rw [Hhit.out, ← List.append_assoc]; exact Own4.out, Kga4.out, Hv4.out, Hb4.out⟩
        case measure => simp [intOf]; omega
end Go.Proofs.YthkknlnfdckdfaaGreatDoor

/- Package protocol: end, End, Turn, Legal. -/
namespace Go.Proofs.YthkknlnfdckdfaaGreatDoor
open Go.ChangeShapes Go.WideShapes Go.ChangeAt Go.RowKit

theorem set2 {w : World} {g : Nat} {t : TypeId} {x y : Value} (h : Blk w g t #[x, y]) (x' y' : Value) : Blk ((w.setCell ⟨g, 0, none⟩ x').setCell ⟨g, 1, none⟩ y') g t #[x', y'] := (h.set_ 0 x').set_ 1 y'
theorem below_set2 {B : Nat} {w w' : World} {g : Nat} (h : Below B w w') (hg : B ≤ g) (x y : Value) : Below B w ((w'.setCell ⟨g, 0, none⟩ x).setCell ⟨g, 1, none⟩ y) := (h.setCell (p := ⟨g, 0, none⟩) hg x).setCell (p := ⟨g, 1, none⟩) hg y
theorem madeR_hit {ms : List Mv} {b : Int} {j : Nat} (h : ((mv ms j).1 == b) = true) : madeR ms b (j + 1) = madeR ms b j + 1 := by
  unfold madeR; rw [if_pos (by rwa [beq_iff_eq] at h)]
  cases j <;> rfl
theorem madeR_miss {ms : List Mv} {b : Int} {j : Nat} (h : ((mv ms j).1 == b) = false) : madeR ms b (j + 1) = madeR ms b j := by
  rw [madeR, if_neg (by rwa [beq_eq_false_iff_ne] at h)]; rfl
set_option maxRecDepth 100000 in
set_option maxHeartbeats 8000000 in
theorem end_any (N : Int) (A : Option Addr) (l : List (Int × Int)) (c : Nat) (root l0 l1 : Int) (M : Option Addr) (ms : List Mv) (cm : Nat) (S : Option Addr) (sk sc gL : Nat) (w : World) (hp : RP w A l) (hr : RM w M ms) (hm : OkM ms) (hl : ms.length ≤ 300) (hll : l.length ≤ 1600) (hrl : RowB w gL ms.length (ldF ms)) :
    Calls Tryz.prog 75 #[.agg #[.int .i64 N, .slice A l.length c, .int .i64 root, .int .i64 l0, .int .i64 l1, .slice M ms.length cm, .slice S sk sc, .int .i64 (leadr ms), .slice (some ⟨gL, 0, none⟩) ms.length ms.length]] w (RetB (.agg #[.int .i64 (endF l0 l1 l ms).1, .int .i64 (endF l0 l1 l ms).2]) w) := by
  have hlg : ∀ wx, Below w.heap.size w wx → Calls Tryz.prog 87 #[.agg #[.int .i64 N, .slice A l.length c, .int .i64 root, .int .i64 l0, .int .i64 l1, .slice M ms.length cm, .slice S sk sc, .int .i64 (leadr ms), .slice (some ⟨gL, 0, none⟩) ms.length ms.length]] wx (RetMn (legL l ms) wx) := fun wx hb =>
    tLegal_any N A l c root l0 l1 M ms cm S sk sc gL wx (hp.below hb) (hr.below hb) hm hl hll (hrl.below hb)
  have hpos := hm.pos
  have HM := Lib.hid hm
  have Hr := Lib.hid hr
  clear hm hp hrl hr
  rcases leadr_12 ms with h | h
  · have hE : endF l0 l1 l ms = if (lastM ms).2.1 = 4 then (3 - (lastM ms).1, 3) else if 200 ≤ ms.length then (1, 4) else if l1 ≤ (madeN ms 2 : Int) then (1, 2) else if (legL l ms).length = 0 then (1, 1) else (0, 0) := by
      unfold endF; rw [h]; rfl
    rw [h] at hlg ⊢
    clear h
    have HE := Lib.hid hE; have Hlg := Lib.hid hlg
    clear hE hlg
    go_enter Tryz.func75, Tryz.ntmps75
    go_upto_region 1 with fail
    obtain ⟨W0, hW, k0, kt, hb0, hs0⟩ := boxed2A w 120 63 #[.int .i64 N, .slice A l.length c, .int .i64 root, .int .i64 l0, .int .i64 l1, .slice M ms.length cm, .slice S sk sc, .int .i64 1, .slice (some ⟨gL, 0, none⟩) ms.length ms.length] #[.int .i64 0, .int .i64 0]
    rw [hW]
    obtain ⟨z0, z1, z2, z3, z4, z5, z6, z7, z8⟩ := tbC k0
    have hg0 : w.heap.size < W0.heap.size := by omega
    have hg1 : w.heap.size + 1 < W0.heap.size := by omega
    have Hb0 := Lib.hid hb0; have Hkt := Lib.hid kt
    clear hW k0 kt hb0 hs0
    have hot : ∀ wx, Calls Tryz.prog 66 #[.int .i64 1] wx (Ret (.int .i64 2) wx) := fun wx => other_any 1 wx (by decide)
    go_wp2_with fail
    go_loopw [4, 13] (fun s t wr => ∃ j : Nat, j ≤ ms.length ∧ t = .int .i64 j ∧ s = .int .i64 (madeR ms 2 j : Nat) ∧ Below W0.heap.size W0 wr) (fun _ t _ => ms.length - (intOf t).toNat)
    case atStart => exact ⟨0, Nat.zero_le _, rfl, rfl, Below.refl _ _⟩
    case round =>
      obtain ⟨j, hj, rfl, rfl, hbl⟩ := hrel
      by_cases hlt : j < ms.length
      case pos =>
        have hjl : (j : Int) < (ms.length : Int) := by omega
        have hmj := madeR_le ms 2 j
        obtain ⟨b, o, rfl, e0, e1, e2, e3⟩ := (Hr.out.below (Hb0.out.trans (hbl.mono Hb0.out.size))) j hlt
        have y7 := (hbl.cell (lt_of_cell z7)).trans z7
        go_upto_region 6 with fail
        obtain ⟨wa, hwa, ka, hba, hsa⟩ := boxedA wr 89 #[.int .i64 (mv ms j).1, .int .i64 (mv ms j).2.1, .int .i64 (mv ms j).2.2.1, .int .i64 (mv ms j).2.2.2]
        rw [hwa]
        have a0 : wa.cell? ⟨wr.heap.size, 0, none⟩ = some (.int .i64 (mv ms j).1) := ka.cell 0
        have x7 := (hba.cell (lt_of_cell y7)).trans y7
        have hbla := hbl.trans (hba.mono hbl.size)
        have Hbl := Lib.hid hbla
        clear hwa ka hba hsa hbla hbl y7 e0 e1 e2 e3
        generalize wr.heap.size = ga at *
        go_quiet ((refine (hot _).mono ?_; rintro e w' ⟨rfl, rfl⟩; exact ⟨rfl, _, rfl⟩))
        cases hby : ((mv ms j).1 == 2)
        · have Hm := Lib.hid (madeR_miss hby)
          go_wp2_with fail
          go_roundw
          case rel => exact ⟨j + 1, by omega, by go_num, by rw [Hm.out], below_drewN Hbl.out _⟩
          case measure => simp [intOf]; omega
        · have Hm := Lib.hid (madeR_hit hby)
          go_wp2_with fail
          go_roundw
          case rel => exact ⟨j + 1, by omega, by go_num, by rw [Hm.out]; go_num, below_drewN Hbl.out _⟩
          case measure => simp [intOf]; omega
      case neg =>
      obtain rfl : j = ms.length := by omega
      have hn1 : IntKind.i64.wrap ((ms.length : Int) - 1) = ((ms.length - 1 : Nat) : Int) := by rw [IntKind.wrap_i64]; omega
      have hnz : (0 : Int) ≤ ((ms.length - 1 : Nat) : Int) := by omega
      have hnl : ((ms.length - 1 : Nat) : Int) < (ms.length : Int) := by omega
      have hln : ms.length - 1 < ms.length := by omega
      obtain ⟨b, o, rfl, e0, e1, e2, e3⟩ := (Hr.out.below (Hb0.out.trans (hbl.mono Hb0.out.size))) _ hln
      have hwho := HM.out.who _ hln
      have y0 := (hbl.cell (lt_of_cell z0)).trans z0
      have y1 := (hbl.cell (lt_of_cell z1)).trans z1
      have y2 := (hbl.cell (lt_of_cell z2)).trans z2
      have y3 := (hbl.cell (lt_of_cell z3)).trans z3
      have y4 := (hbl.cell (lt_of_cell z4)).trans z4
      have y5 := (hbl.cell (lt_of_cell z5)).trans z5
      have y6 := (hbl.cell (lt_of_cell z6)).trans z6
      have y7 := (hbl.cell (lt_of_cell z7)).trans z7
      have y8 := (hbl.cell (lt_of_cell z8)).trans z8
      have hkw := Hkt.out.below hbl hg1
      go_upto_region 10 with fail
      obtain ⟨wa, hwa, ka, hba, hsa⟩ := boxedA wr 89 #[.int .i64 (mv ms (ms.length - 1)).1, .int .i64 (mv ms (ms.length - 1)).2.1, .int .i64 (mv ms (ms.length - 1)).2.2.1, .int .i64 (mv ms (ms.length - 1)).2.2.2]
      rw [hwa]
      have a0 : wa.cell? ⟨wr.heap.size, 0, none⟩ = some (.int .i64 (mv ms (ms.length - 1)).1) := ka.cell 0
      have a1 : wa.cell? ⟨wr.heap.size, 1, none⟩ = some (.int .i64 (mv ms (ms.length - 1)).2.1) := ka.cell 1
      have x0 := (hba.cell (lt_of_cell y0)).trans y0
      have x1 := (hba.cell (lt_of_cell y1)).trans y1
      have x2 := (hba.cell (lt_of_cell y2)).trans y2
      have x3 := (hba.cell (lt_of_cell y3)).trans y3
      have x4 := (hba.cell (lt_of_cell y4)).trans y4
      have x5 := (hba.cell (lt_of_cell y5)).trans y5
      have x6 := (hba.cell (lt_of_cell y6)).trans y6
      have x7 := (hba.cell (lt_of_cell y7)).trans y7
      have x8 := (hba.cell (lt_of_cell y8)).trans y8
      have hkwa := hkw.below hba hkw.lt
      obtain ⟨_, _, f0, f1⟩ := hkwa.two
      obtain ⟨q0, q1, _, _⟩ := hkwa.two
      have hbwa : Below w.heap.size w wa := Hb0.out.trans ((hbl.trans (hba.mono hbl.size)).mono Hb0.out.size)
      have Hka := Lib.hid hkwa; have Hba := Lib.hid hbwa
      clear hwa ka hba hsa hbl hkw hkwa hbwa e0 e1 e2 e3 y0 y1 y2 y3 y4 y5 y6 y7 y8
      have hlm : lastM ms = mv ms (ms.length - 1) := rfl
      rw [← hlm] at a0 a1 hwho
      rw [← hlm]
      clear hlm
      generalize wr.heap.size = ga at *
      cases h4 : ((lastM ms).2.1 == 4)
      case true =>
        have H4 := Lib.hid (beq_iff_eq.1 h4)
        go_wp2_with fail
        refine (other_any (lastM ms).1 wa hwho).mono ?_
        rintro e w1 ⟨rfl, rfl⟩
        go_wp2_with fail
        have hk2 := set2 Hka.out (.int .i64 (3 - (lastM ms).1)) (.int .i64 3)
        obtain ⟨r0, r1, _, _⟩ := hk2.two
        refine bodyPost_ret (v := .agg #[.int .i64 (3 - (lastM ms).1), .int .i64 3]) (by simp [results, Tryz.results75, go_sem, r0, r1]) rfl ?_
        exact ⟨by rw [HE.out, if_pos H4.out], below_set2 Hba.out (Nat.le_succ _) _ _⟩
      case false =>
      have H4 := Lib.hid (beq_eq_false_iff_ne.1 h4)
      by_cases h2 : 200 ≤ ms.length
      · have h2' : (200 : Int) ≤ (ms.length : Int) := by omega
        have h2d : decide ((200 : Int) ≤ (ms.length : Int)) = true := decide_eq_true h2'
        have H2 := Lib.hid h2
        clear h2
        go_wp2_with fail
        have hk2 := set2 Hka.out (.int .i64 1) (.int .i64 4)
        obtain ⟨r0, r1, _, _⟩ := hk2.two
        refine bodyPost_ret (v := .agg #[.int .i64 1, .int .i64 4]) (by simp [results, Tryz.results75, go_sem, r0, r1]) rfl ?_
        exact ⟨by rw [HE.out, if_neg H4.out, if_pos H2.out], below_set2 Hba.out (Nat.le_succ _) _ _⟩
      have h2' : ¬ (200 : Int) ≤ (ms.length : Int) := by omega
      have h2d : decide ((200 : Int) ≤ (ms.length : Int)) = false := decide_eq_false h2'
      have H2 := Lib.hid h2
      clear h2
      by_cases h3 : l1 ≤ (madeN ms 2 : Int)
      · have h3' : l1 ≤ (madeR ms 2 ms.length : Int) := h3
        have h3d : decide (l1 ≤ (madeR ms 2 ms.length : Int)) = true := decide_eq_true h3'
        have H3 := Lib.hid h3
        clear h3
        go_wp2_with fail
        refine (hot wa).mono ?_
        rintro e w1 ⟨rfl, rfl⟩
        go_wp2_with fail
        have hk2 := set2 Hka.out (.int .i64 1) (.int .i64 2)
        obtain ⟨r0, r1, _, _⟩ := hk2.two
        refine bodyPost_ret (v := .agg #[.int .i64 1, .int .i64 2]) (by simp [results, Tryz.results75, go_sem, r0, r1]) rfl ?_
        exact ⟨by rw [HE.out, if_neg H4.out, if_neg H2.out, if_pos H3.out], below_set2 Hba.out (Nat.le_succ _) _ _⟩
      have h3' : ¬ l1 ≤ (madeR ms 2 ms.length : Int) := h3
      have h3d : decide (l1 ≤ (madeR ms 2 ms.length : Int)) = false := decide_eq_false h3'
      have H3 := Lib.hid h3
      clear h3
      go_wp2_with fail
      refine (hot wa).mono ?_
      rintro e w1 ⟨rfl, rfl⟩
      go_wp2_with fail
      refine (Hlg.out wa Hba.out).mono ?_
      rintro e w2 ⟨A4, c4, rfl, _, hb2⟩
      have hk2' := Hka.out.below hb2 Hka.out.lt
      obtain ⟨q0, q1, f0, f1⟩ := hk2'.two
      have x7 := (hb2.cell (lt_of_cell x7)).trans x7
      have Hk2 := Lib.hid hk2'; have Hb2 := Lib.hid (Hba.out.trans (hb2.mono Hba.out.size))
      clear hk2' hb2
      cases h5 : (((legL l ms).length : Int) == 0)
      · have h5' := beq_eq_false_iff_ne.1 h5
        have H5 := Lib.hid (show ¬ (legL l ms).length = 0 by omega)
        clear h5'
        go_wp2_with fail
        have hk2 := set2 Hk2.out (.int .i64 0) (.int .i64 0)
        obtain ⟨r0, r1, _, _⟩ := hk2.two
        refine bodyPost_ret (v := .agg #[.int .i64 0, .int .i64 0]) (by simp [results, Tryz.results75, go_sem, r0, r1]) rfl ?_
        exact ⟨by rw [HE.out, if_neg H4.out, if_neg H2.out, if_neg (Int.not_le.2 H3.out), if_neg H5.out], below_set2 Hb2.out (Nat.le_succ _) _ _⟩
      · have h5' := beq_iff_eq.1 h5
        have H5 := Lib.hid (show (legL l ms).length = 0 by omega)
        clear h5'
        go_wp2_with fail
        have hk2 := set2 Hk2.out (.int .i64 1) (.int .i64 1)
        obtain ⟨r0, r1, _, _⟩ := hk2.two
        refine bodyPost_ret (v := .agg #[.int .i64 1, .int .i64 1]) (by simp [results, Tryz.results75, go_sem, r0, r1]) rfl ?_
        exact ⟨by rw [HE.out, if_neg H4.out, if_neg H2.out, if_neg (Int.not_le.2 H3.out), if_pos H5.out], below_set2 Hb2.out (Nat.le_succ _) _ _⟩
  · have hE : endF l0 l1 l ms = if (lastM ms).2.1 = 4 then (3 - (lastM ms).1, 3) else if 200 ≤ ms.length then (2, 4) else if l0 ≤ (madeN ms 1 : Int) then (2, 2) else if (legL l ms).length = 0 then (2, 1) else (0, 0) := by
      unfold endF; rw [h]; rfl
    rw [h] at hlg ⊢
    clear h
    have HE := Lib.hid hE; have Hlg := Lib.hid hlg
    clear hE hlg
    go_enter Tryz.func75, Tryz.ntmps75
    go_upto_region 1 with fail
    obtain ⟨W0, hW, k0, kt, hb0, hs0⟩ := boxed2A w 120 63 #[.int .i64 N, .slice A l.length c, .int .i64 root, .int .i64 l0, .int .i64 l1, .slice M ms.length cm, .slice S sk sc, .int .i64 2, .slice (some ⟨gL, 0, none⟩) ms.length ms.length] #[.int .i64 0, .int .i64 0]
    rw [hW]
    obtain ⟨z0, z1, z2, z3, z4, z5, z6, z7, z8⟩ := tbC k0
    have hg0 : w.heap.size < W0.heap.size := by omega
    have hg1 : w.heap.size + 1 < W0.heap.size := by omega
    have Hb0 := Lib.hid hb0; have Hkt := Lib.hid kt
    clear hW k0 kt hb0 hs0
    have hot : ∀ wx, Calls Tryz.prog 66 #[.int .i64 2] wx (Ret (.int .i64 1) wx) := fun wx => other_any 2 wx (by decide)
    go_wp2_with fail
    go_loopw [4, 13] (fun s t wr => ∃ j : Nat, j ≤ ms.length ∧ t = .int .i64 j ∧ s = .int .i64 (madeR ms 1 j : Nat) ∧ Below W0.heap.size W0 wr) (fun _ t _ => ms.length - (intOf t).toNat)
    case atStart => exact ⟨0, Nat.zero_le _, rfl, rfl, Below.refl _ _⟩
    case round =>
      obtain ⟨j, hj, rfl, rfl, hbl⟩ := hrel
      by_cases hlt : j < ms.length
      case pos =>
        have hjl : (j : Int) < (ms.length : Int) := by omega
        have hmj := madeR_le ms 1 j
        obtain ⟨b, o, rfl, e0, e1, e2, e3⟩ := (Hr.out.below (Hb0.out.trans (hbl.mono Hb0.out.size))) j hlt
        have y7 := (hbl.cell (lt_of_cell z7)).trans z7
        go_upto_region 6 with fail
        obtain ⟨wa, hwa, ka, hba, hsa⟩ := boxedA wr 89 #[.int .i64 (mv ms j).1, .int .i64 (mv ms j).2.1, .int .i64 (mv ms j).2.2.1, .int .i64 (mv ms j).2.2.2]
        rw [hwa]
        have a0 : wa.cell? ⟨wr.heap.size, 0, none⟩ = some (.int .i64 (mv ms j).1) := ka.cell 0
        have x7 := (hba.cell (lt_of_cell y7)).trans y7
        have hbla := hbl.trans (hba.mono hbl.size)
        have Hbl := Lib.hid hbla
        clear hwa ka hba hsa hbla hbl y7 e0 e1 e2 e3
        generalize wr.heap.size = ga at *
        go_quiet ((refine (hot _).mono ?_; rintro e w' ⟨rfl, rfl⟩; exact ⟨rfl, _, rfl⟩))
        cases hby : ((mv ms j).1 == 1)
        · have Hm := Lib.hid (madeR_miss hby)
          go_wp2_with fail
          go_roundw
          case rel => exact ⟨j + 1, by omega, by go_num, by rw [Hm.out], below_drewN Hbl.out _⟩
          case measure => simp [intOf]; omega
        · have Hm := Lib.hid (madeR_hit hby)
          go_wp2_with fail
          go_roundw
          case rel => exact ⟨j + 1, by omega, by go_num, by rw [Hm.out]; go_num, below_drewN Hbl.out _⟩
          case measure => simp [intOf]; omega
      case neg =>
      obtain rfl : j = ms.length := by omega
      have hn1 : IntKind.i64.wrap ((ms.length : Int) - 1) = ((ms.length - 1 : Nat) : Int) := by rw [IntKind.wrap_i64]; omega
      have hnz : (0 : Int) ≤ ((ms.length - 1 : Nat) : Int) := by omega
      have hnl : ((ms.length - 1 : Nat) : Int) < (ms.length : Int) := by omega
      have hln : ms.length - 1 < ms.length := by omega
      obtain ⟨b, o, rfl, e0, e1, e2, e3⟩ := (Hr.out.below (Hb0.out.trans (hbl.mono Hb0.out.size))) _ hln
      have hwho := HM.out.who _ hln
      have y0 := (hbl.cell (lt_of_cell z0)).trans z0
      have y1 := (hbl.cell (lt_of_cell z1)).trans z1
      have y2 := (hbl.cell (lt_of_cell z2)).trans z2
      have y3 := (hbl.cell (lt_of_cell z3)).trans z3
      have y4 := (hbl.cell (lt_of_cell z4)).trans z4
      have y5 := (hbl.cell (lt_of_cell z5)).trans z5
      have y6 := (hbl.cell (lt_of_cell z6)).trans z6
      have y7 := (hbl.cell (lt_of_cell z7)).trans z7
      have y8 := (hbl.cell (lt_of_cell z8)).trans z8
      have hkw := Hkt.out.below hbl hg1
      go_upto_region 10 with fail
      obtain ⟨wa, hwa, ka, hba, hsa⟩ := boxedA wr 89 #[.int .i64 (mv ms (ms.length - 1)).1, .int .i64 (mv ms (ms.length - 1)).2.1, .int .i64 (mv ms (ms.length - 1)).2.2.1, .int .i64 (mv ms (ms.length - 1)).2.2.2]
      rw [hwa]
      have a0 : wa.cell? ⟨wr.heap.size, 0, none⟩ = some (.int .i64 (mv ms (ms.length - 1)).1) := ka.cell 0
      have a1 : wa.cell? ⟨wr.heap.size, 1, none⟩ = some (.int .i64 (mv ms (ms.length - 1)).2.1) := ka.cell 1
      have x0 := (hba.cell (lt_of_cell y0)).trans y0
      have x1 := (hba.cell (lt_of_cell y1)).trans y1
      have x2 := (hba.cell (lt_of_cell y2)).trans y2
      have x3 := (hba.cell (lt_of_cell y3)).trans y3
      have x4 := (hba.cell (lt_of_cell y4)).trans y4
      have x5 := (hba.cell (lt_of_cell y5)).trans y5
      have x6 := (hba.cell (lt_of_cell y6)).trans y6
      have x7 := (hba.cell (lt_of_cell y7)).trans y7
      have x8 := (hba.cell (lt_of_cell y8)).trans y8
      have hkwa := hkw.below hba hkw.lt
      obtain ⟨_, _, f0, f1⟩ := hkwa.two
      obtain ⟨q0, q1, _, _⟩ := hkwa.two
      have hbwa : Below w.heap.size w wa := Hb0.out.trans ((hbl.trans (hba.mono hbl.size)).mono Hb0.out.size)
      have Hka := Lib.hid hkwa; have Hba := Lib.hid hbwa
      clear hwa ka hba hsa hbl hkw hkwa hbwa e0 e1 e2 e3 y0 y1 y2 y3 y4 y5 y6 y7 y8
      have hlm : lastM ms = mv ms (ms.length - 1) := rfl
      rw [← hlm] at a0 a1 hwho
      rw [← hlm]
      clear hlm
      generalize wr.heap.size = ga at *
      cases h4 : ((lastM ms).2.1 == 4)
      case true =>
        have H4 := Lib.hid (beq_iff_eq.1 h4)
        go_wp2_with fail
        refine (other_any (lastM ms).1 wa hwho).mono ?_
        rintro e w1 ⟨rfl, rfl⟩
        go_wp2_with fail
        have hk2 := set2 Hka.out (.int .i64 (3 - (lastM ms).1)) (.int .i64 3)
        obtain ⟨r0, r1, _, _⟩ := hk2.two
        refine bodyPost_ret (v := .agg #[.int .i64 (3 - (lastM ms).1), .int .i64 3]) (by simp [results, Tryz.results75, go_sem, r0, r1]) rfl ?_
        exact ⟨by rw [HE.out, if_pos H4.out], below_set2 Hba.out (Nat.le_succ _) _ _⟩
      case false =>
      have H4 := Lib.hid (beq_eq_false_iff_ne.1 h4)
      by_cases h2 : 200 ≤ ms.length
      · have h2' : (200 : Int) ≤ (ms.length : Int) := by omega
        have h2d : decide ((200 : Int) ≤ (ms.length : Int)) = true := decide_eq_true h2'
        have H2 := Lib.hid h2
        clear h2
        go_wp2_with fail
        have hk2 := set2 Hka.out (.int .i64 2) (.int .i64 4)
        obtain ⟨r0, r1, _, _⟩ := hk2.two
        refine bodyPost_ret (v := .agg #[.int .i64 2, .int .i64 4]) (by simp [results, Tryz.results75, go_sem, r0, r1]) rfl ?_
        exact ⟨by rw [HE.out, if_neg H4.out, if_pos H2.out], below_set2 Hba.out (Nat.le_succ _) _ _⟩
      have h2' : ¬ (200 : Int) ≤ (ms.length : Int) := by omega
      have h2d : decide ((200 : Int) ≤ (ms.length : Int)) = false := decide_eq_false h2'
      have H2 := Lib.hid h2
      clear h2
      by_cases h3 : l0 ≤ (madeN ms 1 : Int)
      · have h3' : l0 ≤ (madeR ms 1 ms.length : Int) := h3
        have h3d : decide (l0 ≤ (madeR ms 1 ms.length : Int)) = true := decide_eq_true h3'
        have H3 := Lib.hid h3
        clear h3
        go_wp2_with fail
        refine (hot wa).mono ?_
        rintro e w1 ⟨rfl, rfl⟩
        go_wp2_with fail
        have hk2 := set2 Hka.out (.int .i64 2) (.int .i64 2)
        obtain ⟨r0, r1, _, _⟩ := hk2.two
        refine bodyPost_ret (v := .agg #[.int .i64 2, .int .i64 2]) (by simp [results, Tryz.results75, go_sem, r0, r1]) rfl ?_
        exact ⟨by rw [HE.out, if_neg H4.out, if_neg H2.out, if_pos H3.out], below_set2 Hba.out (Nat.le_succ _) _ _⟩
      have h3' : ¬ l0 ≤ (madeR ms 1 ms.length : Int) := h3
      have h3d : decide (l0 ≤ (madeR ms 1 ms.length : Int)) = false := decide_eq_false h3'
      have H3 := Lib.hid h3
      clear h3
      go_wp2_with fail
      refine (hot wa).mono ?_
      rintro e w1 ⟨rfl, rfl⟩
      go_wp2_with fail
      refine (Hlg.out wa Hba.out).mono ?_
      rintro e w2 ⟨A4, c4, rfl, _, hb2⟩
      have hk2' := Hka.out.below hb2 Hka.out.lt
      obtain ⟨q0, q1, f0, f1⟩ := hk2'.two
      have x7 := (hb2.cell (lt_of_cell x7)).trans x7
      have Hk2 := Lib.hid hk2'; have Hb2 := Lib.hid (Hba.out.trans (hb2.mono Hba.out.size))
      clear hk2' hb2
      cases h5 : (((legL l ms).length : Int) == 0)
      · have h5' := beq_eq_false_iff_ne.1 h5
        have H5 := Lib.hid (show ¬ (legL l ms).length = 0 by omega)
        clear h5'
        go_wp2_with fail
        have hk2 := set2 Hk2.out (.int .i64 0) (.int .i64 0)
        obtain ⟨r0, r1, _, _⟩ := hk2.two
        refine bodyPost_ret (v := .agg #[.int .i64 0, .int .i64 0]) (by simp [results, Tryz.results75, go_sem, r0, r1]) rfl ?_
        exact ⟨by rw [HE.out, if_neg H4.out, if_neg H2.out, if_neg (Int.not_le.2 H3.out), if_neg H5.out], below_set2 Hb2.out (Nat.le_succ _) _ _⟩
      · have h5' := beq_iff_eq.1 h5
        have H5 := Lib.hid (show (legL l ms).length = 0 by omega)
        clear h5'
        go_wp2_with fail
        have hk2 := set2 Hk2.out (.int .i64 2) (.int .i64 1)
        obtain ⟨r0, r1, _, _⟩ := hk2.two
        refine bodyPost_ret (v := .agg #[.int .i64 2, .int .i64 1]) (by simp [results, Tryz.results75, go_sem, r0, r1]) rfl ?_
        exact ⟨by rw [HE.out, if_neg H4.out, if_neg H2.out, if_neg (Int.not_le.2 H3.out), if_pos H5.out], below_set2 Hb2.out (Nat.le_succ _) _ _⟩
theorem run_field1 (x y : Int) (w : World) : (Instr.field 63 (.agg #[.int .i64 x, .int .i64 y]) 1).run Tryz.prog w = .ok (.int .i64 y) w := by
  unfold Instr.field
  go_simp
  simp [asAgg]
theorem run_field7 (N root l0 l1 ld : Int) (A M S L : Option Addr) (k c m cm sk sc lk lc : Nat) (w : World) : (Instr.field 120 (.agg #[.int .i64 N, .slice A k c, .int .i64 root, .int .i64 l0, .int .i64 l1, .slice M m cm, .slice S sk sc, .int .i64 ld, .slice L lk lc]) 2).run Tryz.prog w = .ok (.int .i64 ld) w := by
  unfold Instr.field
  go_simp
  simp [asAgg]
set_option maxRecDepth 100000 in
set_option maxHeartbeats 4000000 in
theorem End_any (N : Int) (A : Option Addr) (l : List (Int × Int)) (c : Nat) (root l0 l1 : Int) (M : Option Addr) (ms : List Mv) (cm : Nat) (w : World) (hp : RP w A l) (hr : RM w M ms) (hm : OkM ms) (hl : ms.length ≤ 300) (hll : l.length ≤ 1600) :
    Calls Tryz.prog 48 #[.agg #[.int .i64 N, .slice A l.length c, .int .i64 root, .int .i64 l0, .int .i64 l1, .slice M ms.length cm]] w (RetB (.agg #[.int .i64 (endF l0 l1 l ms).1, .int .i64 (endF l0 l1 l ms).2]) w) := by
  have hpos := hm.pos
  have HM := Lib.hid hm
  clear hm
  go_enter Tryz.func48, Tryz.ntmps48
  go_upto_region 1 with fail
  obtain ⟨W0, hW, k0, kt, hb0, hs0⟩ := boxed2A w 55 63 #[.int .i64 N, .slice A l.length c, .int .i64 root, .int .i64 l0, .int .i64 l1, .slice M ms.length cm] #[.int .i64 0, .int .i64 0]
  rw [hW]
  obtain ⟨z0, z1, z2, z3, z4, z5⟩ := dgC k0
  have hne : ((ms.length : Int) == 0) = false := beq_eq_false_iff_ne.2 (by omega)
  have hp0 := hp.below hb0; have hr0 := hr.below hb0
  have Hb0 := Lib.hid hb0; have Hkt := Lib.hid kt
  clear hW k0 kt hb0 hs0 hp hr
  go_wp2_with fail
  refine (of_any N A l.length c root l0 l1 M ms cm W0 hr0 HM.out (by omega)).mono ?_
  rintro e w1 ⟨gS, gL, rfl, _, hrl, hb1⟩
  have hp1 := hp0.below hb1; have hr1 := hr0.below hb1
  have hk1 := Hkt.out.below hb1 Hkt.out.lt
  have hbb := Hb0.out.trans (hb1.mono Hb0.out.size)
  clear hp0 hr0 Hkt Hb0 hb1 z0 z1 z2 z3 z4 z5
  go_wp2_with fail
  refine (end_any N A l c root l0 l1 M ms cm (some ⟨gS, 0, none⟩) ms.length ms.length gL w1 hp1 hr1 HM.out hl hll hrl).mono ?_
  rintro e w2 ⟨rfl, hb2⟩
  have hk2 := hk1.below hb2 hk1.lt
  obtain ⟨q0, q1, f0, f1⟩ := hk2.two
  have Hk2 := Lib.hid hk2
  have Hb2 := Lib.hid (hbb.trans (hb2.mono hbb.size))
  clear hp1 hr1 hk1 hbb hrl hb2 hk2
  go_wp2_with fail
  have hk3 := set2 Hk2.out (.int .i64 (endF l0 l1 l ms).1) (.int .i64 (endF l0 l1 l ms).2)
  obtain ⟨r0, r1, _, _⟩ := hk3.two
  refine bodyPost_ret (v := .agg #[.int .i64 (endF l0 l1 l ms).1, .int .i64 (endF l0 l1 l ms).2]) (by simp [results, Tryz.results48, go_sem, r0, r1]) rfl ?_
  exact ⟨rfl, below_set2 Hb2.out (Nat.le_succ _) _ _⟩
set_option maxRecDepth 100000 in
set_option maxHeartbeats 4000000 in
theorem turn_any (N : Int) (A : Option Addr) (l : List (Int × Int)) (c : Nat) (root l0 l1 : Int) (M : Option Addr) (ms : List Mv) (cm : Nat) (w : World) (hp : RP w A l) (hr : RM w M ms) (hm : OkM ms) (hl : ms.length ≤ 300) (hll : l.length ≤ 1600) :
    Calls Tryz.prog 44 #[.agg #[.int .i64 N, .slice A l.length c, .int .i64 root, .int .i64 l0, .int .i64 l1, .slice M ms.length cm]] w (RetB (.int .i64 (turnF l0 l1 l ms)) w) := by
  have hpos := hm.pos
  have HM := Lib.hid hm
  clear hm
  go_enter Tryz.func44, Tryz.ntmps44
  go_upto_region 1 with fail
  obtain ⟨W0, hW, k0, hb0, hs0⟩ := boxedA w 55 #[.int .i64 N, .slice A l.length c, .int .i64 root, .int .i64 l0, .int .i64 l1, .slice M ms.length cm]
  rw [hW]
  obtain ⟨z0, z1, z2, z3, z4, z5⟩ := dgC k0
  have hne : ((ms.length : Int) == 0) = false := beq_eq_false_iff_ne.2 (by omega)
  have hp0 := hp.below hb0; have hr0 := hr.below hb0
  have Hb0 := Lib.hid hb0
  clear hW k0 hb0 hs0 hp hr
  go_wp2_with fail
  refine (End_any N A l c root l0 l1 M ms cm W0 hp0 hr0 HM.out hl hll).mono ?_
  rintro e w1 ⟨rfl, hb1⟩
  have hr1 := hr0.below hb1
  have y0 := (hb1.cell (lt_of_cell z0)).trans z0
  have y1 := (hb1.cell (lt_of_cell z1)).trans z1
  have y2 := (hb1.cell (lt_of_cell z2)).trans z2
  have y3 := (hb1.cell (lt_of_cell z3)).trans z3
  have y4 := (hb1.cell (lt_of_cell z4)).trans z4
  have y5 := (hb1.cell (lt_of_cell z5)).trans z5
  have Hbb := Lib.hid (Hb0.out.trans (hb1.mono Hb0.out.size))
  have hf := fun w => run_field1 (endF l0 l1 l ms).1 (endF l0 l1 l ms).2 w
  clear hp0 hr0 Hb0 hb1 z0 z1 z2 z3 z4 z5
  by_cases he : (endF l0 l1 l ms).2 = 0
  · have ht : turnF l0 l1 l ms = 3 - leadr ms := by unfold turnF; rw [if_pos he]
    have Ht := Lib.hid ht
    have hq : ((endF l0 l1 l ms).2 != 0) = false := by rw [he]; rfl
    clear ht he
    go_wp2_with fail
    refine (of_any N A l.length c root l0 l1 M ms cm w1 hr1 HM.out (by omega)).mono ?_
    rintro e w2 ⟨gS, gL, rfl, _, _, hb2⟩
    have Hb2 := Lib.hid (Hbb.out.trans (hb2.mono Hbb.out.size))
    have hf7 := fun w => run_field7 N root l0 l1 (leadr ms) A M (some ⟨gS, 0, none⟩) (some ⟨gL, 0, none⟩) l.length c ms.length cm ms.length ms.length ms.length ms.length w
    clear hr1 Hbb hb2 y0 y1 y2 y3 y4 y5 hf
    go_wp2_with fail
    refine (other_any (leadr ms) w2 (leadr_12 ms)).mono ?_
    rintro e w3 ⟨rfl, rfl⟩
    go_wp2_with fail
    go_ret
    exact ⟨ri (by rw [Ht.out]), Hb2.out⟩
  · have ht : turnF l0 l1 l ms = 0 := by unfold turnF; rw [if_neg he]
    have Ht := Lib.hid ht
    have hq : ((endF l0 l1 l ms).2 != 0) = true := bne_iff_ne.2 he
    clear ht he
    go_wp2_with fail
    go_ret
    exact ⟨ri (by rw [Ht.out]), Hbb.out⟩
set_option maxRecDepth 100000 in
set_option maxHeartbeats 4000000 in
theorem Legal_any (N : Int) (A : Option Addr) (l : List (Int × Int)) (c : Nat) (root l0 l1 : Int) (M : Option Addr) (ms : List Mv) (cm : Nat) (w : World) (hp : RP w A l) (hr : RM w M ms) (hm : OkM ms) (hl : ms.length ≤ 300) (hll : l.length ≤ 1600) (ht : turnF l0 l1 l ms ≠ 0) :
    Calls Tryz.prog 69 #[.agg #[.int .i64 N, .slice A l.length c, .int .i64 root, .int .i64 l0, .int .i64 l1, .slice M ms.length cm]] w (RetMn (legL l ms) w) := by
  have hpos := hm.pos
  have HM := Lib.hid hm
  clear hm
  go_enter Tryz.func69, Tryz.ntmps69
  go_upto_region 1 with fail
  obtain ⟨W0, hW, k0, hb0, hs0⟩ := boxedA w 55 #[.int .i64 N, .slice A l.length c, .int .i64 root, .int .i64 l0, .int .i64 l1, .slice M ms.length cm]
  rw [hW]
  obtain ⟨z0, z1, z2, z3, z4, z5⟩ := dgC k0
  have hp0 := hp.below hb0; have hr0 := hr.below hb0
  have Hb0 := Lib.hid hb0
  have hne : (turnF l0 l1 l ms == 0) = false := beq_eq_false_iff_ne.2 ht
  clear hW k0 hb0 hs0 hp hr ht
  go_wp2_with fail
  refine (turn_any N A l c root l0 l1 M ms cm W0 hp0 hr0 HM.out hl hll).mono ?_
  rintro e w1 ⟨rfl, hb1⟩
  have hp1 := hp0.below hb1; have hr1 := hr0.below hb1
  have y0 := (hb1.cell (lt_of_cell z0)).trans z0
  have y1 := (hb1.cell (lt_of_cell z1)).trans z1
  have y2 := (hb1.cell (lt_of_cell z2)).trans z2
  have y3 := (hb1.cell (lt_of_cell z3)).trans z3
  have y4 := (hb1.cell (lt_of_cell z4)).trans z4
  have y5 := (hb1.cell (lt_of_cell z5)).trans z5
  have Hbb := Lib.hid (Hb0.out.trans (hb1.mono Hb0.out.size))
  clear hp0 hr0 Hb0 hb1 z0 z1 z2 z3 z4 z5
  go_wp2_with fail
  refine (of_any N A l.length c root l0 l1 M ms cm w1 hr1 HM.out (by omega)).mono ?_
  rintro e w2 ⟨gS, gL, rfl, _, hrl, hb2⟩
  have hp2 := hp1.below hb2; have hr2 := hr1.below hb2
  have Hb2 := Lib.hid (Hbb.out.trans (hb2.mono Hbb.out.size))
  clear hp1 hr1 Hbb hb2 y0 y1 y2 y3 y4 y5
  go_wp2_with fail
  refine (tLegal_any N A l c root l0 l1 M ms cm (some ⟨gS, 0, none⟩) ms.length ms.length gL w2 hp2 hr2 HM.out hl hll hrl).mono ?_
  rintro e w3 ⟨A4, c4, rfl, ho, hb3⟩
  have Ho := Lib.hid ho; have Hb3 := Lib.hid (Hb2.out.trans (hb3.mono Hb2.out.size))
  have hs := Hb2.out.size
  clear ho hb3 hp2 hr2 hrl
  go_wp2_with fail
  go_ret
  exact ⟨A4, c4, rfl, Ho.out.mono hs, Hb3.out⟩
end Go.Proofs.YthkknlnfdckdfaaGreatDoor

/- Package protocol: judged, Apply, New. -/
namespace Go.Proofs.YthkknlnfdckdfaaGreatDoor
open Go.ChangeShapes Go.WideShapes Go.ChangeAt Go.RowKit

theorem mvC {w : World} {g : Nat} {t : TypeId} {x0 x1 x2 x3 : Value} (h : Blk w g t #[x0, x1, x2, x3]) : w.cell? ⟨g, 0, none⟩ = some x0 ∧ w.cell? ⟨g, 1, none⟩ = some x1 ∧ w.cell? ⟨g, 2, none⟩ = some x2 ∧ w.cell? ⟨g, 3, none⟩ = some x3 ∧ w.frozen? ⟨g, 0, none⟩ = false ∧ w.frozen? ⟨g, 1, none⟩ = false ∧ w.frozen? ⟨g, 2, none⟩ = false ∧ w.frozen? ⟨g, 3, none⟩ = false :=
  ⟨by rw [h.cell]; rfl, by rw [h.cell]; rfl, by rw [h.cell]; rfl, by rw [h.cell]; rfl, h.frozen 0, h.frozen 1, h.frozen 2, h.frozen 3⟩
theorem set4 {w : World} {g : Nat} {t : TypeId} {x y z u : Value} (h : Blk w g t #[x, y, z, u]) (x' y' z' u' : Value) : Blk ((((w.setCell ⟨g, 0, none⟩ x').setCell ⟨g, 1, none⟩ y').setCell ⟨g, 2, none⟩ z').setCell ⟨g, 3, none⟩ u') g t #[x', y', z', u'] := (((h.set_ 0 x').set_ 1 y').set_ 2 z').set_ 3 u'
theorem below_set4 {B : Nat} {w w' : World} {g : Nat} (h : Below B w w') (hg : B ≤ g) (x y z u : Value) : Below B w ((((w'.setCell ⟨g, 0, none⟩ x).setCell ⟨g, 1, none⟩ y).setCell ⟨g, 2, none⟩ z).setCell ⟨g, 3, none⟩ u) := (((h.setCell (p := ⟨g, 0, none⟩) hg x).setCell (p := ⟨g, 1, none⟩) hg y).setCell (p := ⟨g, 2, none⟩) hg z).setCell (p := ⟨g, 3, none⟩) hg u
theorem boxed3A (w : World) (t u v : TypeId) (cs ds es : Array Value) : ∃ W0, ((w.alloc (.cells cs t)).alloc (.cells ds u)).alloc (.cells es v) = W0 ∧ Blk W0 w.heap.size t cs ∧ Blk W0 (w.heap.size + 1) u ds ∧ Blk W0 (w.heap.size + 2) v es ∧ Below w.heap.size w W0 ∧ W0.heap.size = w.heap.size + 3 := by
  refine ⟨_, rfl, ((Blk.new w t cs).alloc _).alloc _, ?_, ?_, (((Below.refl _ _).alloc (Nat.le_refl _) _).alloc (by simp) _).alloc (by simp; omega) _, by simp⟩
  · have := (Blk.new (w.alloc (.cells cs t)) u ds).alloc (.cells es v)
    simpa using this
  · have := Blk.new ((w.alloc (.cells cs t)).alloc (.cells ds u)) v es
    simpa using this
theorem leg_in {n : Nat} {l : List (Int × Int)} (hv : InR n l) {ms : List Mv} {m : Mv} (h : m ∈ legL l ms) : m.1 = 3 - leadr ms ∧ m.2.1 = 2 ∧ (0 ≤ m.2.2.1 ∧ m.2.2.1 < n) ∧ 0 ≤ m.2.2.2 ∧ m.2.2.2 < ms.length := by
  obtain ⟨i, hi, hx⟩ := mem_legL.1 h
  obtain ⟨_, _, p, hp, _, rfl⟩ := mem_legAt.1 hx
  obtain ⟨q1, q2, _, _⟩ := hv.2.2 p hp
  exact ⟨rfl, rfl, ⟨q1, q2⟩, by show (0 : Int) ≤ (i : Int); omega, by show (i : Int) < (ms.length : Int); omega⟩
set_option maxRecDepth 100000 in
set_option maxHeartbeats 8000000 in
theorem judged_any (n : Nat) (A : Option Addr) (l : List (Int × Int)) (c : Nat) (root l0 l1 : Int) (M : Option Addr) (ms : List Mv) (cm : Nat) (S : Option Addr) (sk sc gL : Nat) (m : Mv) (w : World) (hp : RP w A l) (hv : InR n l) (hr : RM w M ms) (hm : OkM ms) (hl : ms.length ≤ 300) (hll : l.length ≤ 1600) (hrl : RowB w gL ms.length (ldF ms)) (hmay : MayB l ms m) :
    Calls Tryz.prog 74 #[.agg #[.int .i64 (n : Int), .slice A l.length c, .int .i64 root, .int .i64 l0, .int .i64 l1, .slice M ms.length cm, .slice S sk sc, .int .i64 (leadr ms), .slice (some ⟨gL, 0, none⟩) ms.length ms.length], .agg #[.int .i64 m.1, .int .i64 m.2.1, .int .i64 m.2.2.1, .int .i64 m.2.2.2]] w (RetB (.tuple #[.agg #[.int .i64 m.1, .int .i64 m.2.1, .int .i64 m.2.2.1, .int .i64 m.2.2.2], .int .i64 0]) w) := by
  have hlg : ∀ wx, Below w.heap.size w wx → Calls Tryz.prog 87 #[.agg #[.int .i64 (n : Int), .slice A l.length c, .int .i64 root, .int .i64 l0, .int .i64 l1, .slice M ms.length cm, .slice S sk sc, .int .i64 (leadr ms), .slice (some ⟨gL, 0, none⟩) ms.length ms.length]] wx (RetMn (legL l ms) wx) := fun wx hb =>
    tLegal_any n A l c root l0 l1 M ms cm S sk sc gL wx (hp.below hb) (hr.below hb) hm hl hll (hrl.below hb)
  have hlen : (legL l ms).length ≤ 300 * 1600 := Nat.le_trans (legR_len l ms ms.length) (Nat.mul_le_mul hl hll)
  have hself : ((3 - leadr ms) != (3 - leadr ms)) = false := by simp
  have hot : ∀ wx, Calls Tryz.prog 66 #[.int .i64 (leadr ms)] wx (Ret (.int .i64 (3 - leadr ms)) wx) := fun wx => other_any (leadr ms) wx (leadr_12 ms)
  have Hlg := Lib.hid hlg; have Hlen := Lib.hid hlen
  clear hlg hlen hp hr hm hrl
  rcases hmay with hin | hco
  · obtain ⟨h1, h2, ⟨h3, h4⟩, h5, h6⟩ := leg_in hv hin
    have Hin := Lib.hid (show (legL l ms).contains m = true from List.contains_iff_mem.2 hin)
    clear hv hin
    obtain ⟨m1, m2, m3, m4⟩ := m
    simp only at h1 h2 h3 h4 h5 h6 ⊢
    subst h1 h2
    have d1 : decide (m4 < 0) = false := decide_eq_false (by omega)
    have d2 : decide ((ms.length : Int) ≤ m4) = false := decide_eq_false (by omega)
    have d3 : decide (m3 < 0) = false := decide_eq_false (by omega)
    have d4 : decide ((n : Int) ≤ m3) = false := decide_eq_false (by omega)
    go_enter Tryz.func74, Tryz.ntmps74
    go_upto_region 1 with fail
    obtain ⟨W0, hW, k0, k1, k2, hb0, hs0⟩ := boxed3A w 120 89 89 #[.int .i64 (n : Int), .slice A l.length c, .int .i64 root, .int .i64 l0, .int .i64 l1, .slice M ms.length cm, .slice S sk sc, .int .i64 (leadr ms), .slice (some ⟨gL, 0, none⟩) ms.length ms.length] #[.int .i64 (3 - leadr ms), .int .i64 2, .int .i64 m3, .int .i64 m4] #[.int .i64 0, .int .i64 0, .int .i64 0, .int .i64 0]
    rw [hW]
    obtain ⟨z0, z1, z2, z3, z4, z5, z6, z7, z8⟩ := tbC k0
    obtain ⟨y0, y1, y2, y3, _, _, _, _⟩ := mvC k1
    have Hb0 := Lib.hid hb0; have Hk2 := Lib.hid k2
    clear hW k0 k1 k2 hb0
    go_upto_region 7 with fail
    go_quiet ((refine (hot _).mono ?_; rintro e w' ⟨rfl, rfl⟩; exact ⟨rfl, _, rfl⟩))
    go_wp2_with fail
    refine wp_region_textB [1, 3] (fun w' => Below W0.heap.size W0 w') (fun _ => True) (by kernel_rfl) (by kernel_rfl) (by kernel_rfl) (below_drewN (below_drewN (Below.refl _ _) nq) 1) trivial ?_
    repeat (first
      | (refine TxtBL.skip (by rfl) ?_; simp only [Act.put, List.setIfInBounds_toArray, List.set_cons_zero, List.set_cons_succ])
      | (refine TxtBL.take (by rfl) (by rfl) ?_; apply Exists.intro; refine ⟨fun w1 hS1 => ?_, ?_⟩; (focus ((have g0 := (hS1.cell (lt_of_cell z0)).trans z0); (have g1 := (hS1.cell (lt_of_cell z1)).trans z1); (have g2 := (hS1.cell (lt_of_cell z2)).trans z2); (have g3 := (hS1.cell (lt_of_cell z3)).trans z3); (have g4 := (hS1.cell (lt_of_cell z4)).trans z4); (have g5 := (hS1.cell (lt_of_cell z5)).trans z5); (have g6 := (hS1.cell (lt_of_cell z6)).trans z6); (have g7 := (hS1.cell (lt_of_cell z7)).trans z7); (have g8 := (hS1.cell (lt_of_cell z8)).trans z8); (have h0 := (hS1.cell (lt_of_cell y0)).trans y0); (have h1 := (hS1.cell (lt_of_cell y1)).trans y1); (have h2 := (hS1.cell (lt_of_cell y2)).trans y2); (have h3 := (hS1.cell (lt_of_cell y3)).trans y3); go_simp; with_reducible rfl)); simp only [Act.put, List.setIfInBounds_toArray, List.set_cons_zero, List.set_cons_succ])
      | (refine TxtBL.takeE (by rfl) (by rfl) ?_; apply Exists.intro; refine ⟨fun w1 hS1 => ?_, ?_⟩; (focus ((have g0 := (hS1.cell (lt_of_cell z0)).trans z0); (have g1 := (hS1.cell (lt_of_cell z1)).trans z1); (have g2 := (hS1.cell (lt_of_cell z2)).trans z2); (have g3 := (hS1.cell (lt_of_cell z3)).trans z3); (have g4 := (hS1.cell (lt_of_cell z4)).trans z4); (have g5 := (hS1.cell (lt_of_cell z5)).trans z5); (have g6 := (hS1.cell (lt_of_cell z6)).trans z6); (have g7 := (hS1.cell (lt_of_cell z7)).trans z7); (have g8 := (hS1.cell (lt_of_cell z8)).trans z8); (have h0 := (hS1.cell (lt_of_cell y0)).trans y0); (have h1 := (hS1.cell (lt_of_cell y1)).trans y1); (have h2 := (hS1.cell (lt_of_cell y2)).trans y2); (have h3 := (hS1.cell (lt_of_cell y3)).trans y3); go_simp; with_reducible rfl)); simp only [Act.put, List.setIfInBounds_toArray, List.set_cons_zero, List.set_cons_succ]))
    refine TxtBL.call (f := 87) (args := #[.agg #[.int .i64 (n : Int), .slice A l.length c, .int .i64 root, .int .i64 l0, .int .i64 l1, .slice M ms.length cm, .slice S sk sc, .int .i64 (leadr ms), .slice (some ⟨gL, 0, none⟩) ms.length ms.length]]) (fun u => ∃ A4 c4, u = .slice A4 (legL l ms).length c4) (fun u w' => ∀ A4 c4, u = .slice A4 (legL l ms).length c4 → RM w' A4 (legL l ms)) (by rfl) (by rfl) ⟨_, none, 0, rfl⟩ (fun w2 hS1 hJ1 => by go_simp) (fun w2 hS1 hJ1 => ?_) ?_
    · refine (Hlg.out w2 (Hb0.out.trans (hS1.mono Hb0.out.size))).mono ?_
      rintro e w' ⟨A4, c4, rfl, ho, hb⟩
      refine ⟨_, rfl, hS1.trans (hb.mono hS1.size), ⟨A4, c4, rfl⟩, fun A5 c5 e => ?_⟩
      obtain ⟨A6, c6, e6, h6, _, _⟩ := ho.form
      rw [e6] at e
      injection e with e _ _
      subst e
      exact h6
    rintro u ⟨A4, c4, rfl⟩
    simp only [Act.put, List.setIfInBounds_toArray, List.set_cons_zero, List.set_cons_succ]
    repeat (first
      | (refine TxtBL.skip (by rfl) ?_; simp only [Act.put, List.setIfInBounds_toArray, List.set_cons_zero, List.set_cons_succ])
      | (refine TxtBL.take (by rfl) (by rfl) ?_; apply Exists.intro; refine ⟨fun w1 hS1 => ?_, ?_⟩; (focus ((have g0 := (hS1.cell (lt_of_cell z0)).trans z0); (have g1 := (hS1.cell (lt_of_cell z1)).trans z1); (have g2 := (hS1.cell (lt_of_cell z2)).trans z2); (have g3 := (hS1.cell (lt_of_cell z3)).trans z3); (have g4 := (hS1.cell (lt_of_cell z4)).trans z4); (have g5 := (hS1.cell (lt_of_cell z5)).trans z5); (have g6 := (hS1.cell (lt_of_cell z6)).trans z6); (have g7 := (hS1.cell (lt_of_cell z7)).trans z7); (have g8 := (hS1.cell (lt_of_cell z8)).trans z8); (have h0 := (hS1.cell (lt_of_cell y0)).trans y0); (have h1 := (hS1.cell (lt_of_cell y1)).trans y1); (have h2 := (hS1.cell (lt_of_cell y2)).trans y2); (have h3 := (hS1.cell (lt_of_cell y3)).trans y3); go_simp; with_reducible rfl)); simp only [Act.put, List.setIfInBounds_toArray, List.set_cons_zero, List.set_cons_succ])
      | (refine TxtBL.takeE (by rfl) (by rfl) ?_; apply Exists.intro; refine ⟨fun w1 hS1 => ?_, ?_⟩; (focus ((have g0 := (hS1.cell (lt_of_cell z0)).trans z0); (have g1 := (hS1.cell (lt_of_cell z1)).trans z1); (have g2 := (hS1.cell (lt_of_cell z2)).trans z2); (have g3 := (hS1.cell (lt_of_cell z3)).trans z3); (have g4 := (hS1.cell (lt_of_cell z4)).trans z4); (have g5 := (hS1.cell (lt_of_cell z5)).trans z5); (have g6 := (hS1.cell (lt_of_cell z6)).trans z6); (have g7 := (hS1.cell (lt_of_cell z7)).trans z7); (have g8 := (hS1.cell (lt_of_cell z8)).trans z8); (have h0 := (hS1.cell (lt_of_cell y0)).trans y0); (have h1 := (hS1.cell (lt_of_cell y1)).trans y1); (have h2 := (hS1.cell (lt_of_cell y2)).trans y2); (have h3 := (hS1.cell (lt_of_cell y3)).trans y3); go_simp; with_reducible rfl)); simp only [Act.put, List.setIfInBounds_toArray, List.set_cons_zero, List.set_cons_succ]))
    refine TxtBL.call (f := 88) (args := #[.slice A4 (legL l ms).length c4, .agg #[.int .i64 (3 - leadr ms), .int .i64 2, .int .i64 m3, .int .i64 m4]]) (fun u => u = .bool true) (fun _ _ => True) (by rfl) (by rfl) ⟨_, rfl⟩ (fun w2 hS1 hJ1 => by go_simp) (fun w2 hS1 hJ1 => ?_) ?_
    · refine (containsM_any A4 (legL l ms) c4 ((3 - leadr ms, 2, m3, m4) : Mv) w2 (hJ1 _ _ rfl) (by have := Hlen.out; omega)).mono ?_
      rintro e w' ⟨rfl, hb⟩
      exact ⟨_, rfl, hS1.trans (hb.mono hS1.size), by rw [Hin.out], trivial⟩
    rintro u rfl
    simp only [Act.put, List.setIfInBounds_toArray, List.set_cons_zero, List.set_cons_succ]
    repeat (first
      | (refine TxtBL.skip (by rfl) ?_; simp only [Act.put, List.setIfInBounds_toArray, List.set_cons_zero, List.set_cons_succ])
      | (refine TxtBL.take (by rfl) (by rfl) ?_; apply Exists.intro; refine ⟨fun w1 hS1 => ?_, ?_⟩; (focus (skip; go_simp; with_reducible rfl)); simp only [Act.put, List.setIfInBounds_toArray, List.set_cons_zero, List.set_cons_succ])
      | (refine TxtBL.takeE (by rfl) (by rfl) ?_; apply Exists.intro; refine ⟨fun w1 hS1 => ?_, ?_⟩; (focus (skip; go_simp; with_reducible rfl)); simp only [Act.put, List.setIfInBounds_toArray, List.set_cons_zero, List.set_cons_succ]))
    refine TxtBL.nil (fun w2 hS hJ => ?_)
    have hk3 := Hk2.out.below hS (by omega)
    obtain ⟨q0, q1, q2, q3, f0, f1, f2, f3⟩ := mvC hk3
    have t0 := (hS.cell (lt_of_cell y0)).trans y0
    have t1 := (hS.cell (lt_of_cell y1)).trans y1
    have t2 := (hS.cell (lt_of_cell y2)).trans y2
    have t3 := (hS.cell (lt_of_cell y3)).trans y3
    have Hk3 := Lib.hid hk3; have HS := Lib.hid hS
    clear hk3 hS z0 z1 z2 z3 z4 z5 z6 z7 z8 y0 y1 y2 y3
    go_wp2_with fail
    have hk4 := set4 Hk3.out (.int .i64 (3 - leadr ms)) (.int .i64 2) (.int .i64 m3) (.int .i64 m4)
    obtain ⟨r0, r1, r2, r3, _, _, _, _⟩ := mvC hk4
    refine bodyPost_ret (v := .tuple #[.agg #[.int .i64 (3 - leadr ms), .int .i64 2, .int .i64 m3, .int .i64 m4], .int .i64 0]) (by simp [results, Tryz.results74, go_sem, r0, r1, r2, r3]) rfl ?_
    exact ⟨rfl, below_set4 (Hb0.out.trans (HS.out.mono Hb0.out.size)) (by omega) _ _ _ _⟩
  · subst hco
    simp only
    go_enter Tryz.func74, Tryz.ntmps74
    go_upto_region 1 with fail
    obtain ⟨W0, hW, k0, k1, k2, hb0, hs0⟩ := boxed3A w 120 89 89 #[.int .i64 (n : Int), .slice A l.length c, .int .i64 root, .int .i64 l0, .int .i64 l1, .slice M ms.length cm, .slice S sk sc, .int .i64 (leadr ms), .slice (some ⟨gL, 0, none⟩) ms.length ms.length] #[.int .i64 (3 - leadr ms), .int .i64 4, .int .i64 0, .int .i64 0] #[.int .i64 0, .int .i64 0, .int .i64 0, .int .i64 0]
    rw [hW]
    obtain ⟨z0, z1, z2, z3, z4, z5, z6, z7, z8⟩ := tbC k0
    obtain ⟨y0, y1, y2, y3, _, _, _, _⟩ := mvC k1
    have Hb0 := Lib.hid hb0
    obtain ⟨q0, q1, q2, q3, f0, f1, f2, f3⟩ := mvC k2
    have Hk2 := Lib.hid k2
    clear hW k0 k1 k2 hb0 hs0
    go_upto_region 7 with fail
    go_quiet ((refine (hot _).mono ?_; rintro e w' ⟨rfl, rfl⟩; exact ⟨rfl, _, rfl⟩))
    go_wp2_with fail
    have hk3 : Blk (W0.drewN nq) (w.heap.size + 2) 89 #[.int .i64 0, .int .i64 0, .int .i64 0, .int .i64 0] := Hk2.out
    have hk4 := set4 hk3 (.int .i64 (3 - leadr ms)) (.int .i64 4) (.int .i64 0) (.int .i64 0)
    obtain ⟨r0, r1, r2, r3, _, _, _, _⟩ := mvC hk4
    refine bodyPost_ret (v := .tuple #[.agg #[.int .i64 (3 - leadr ms), .int .i64 4, .int .i64 0, .int .i64 0], .int .i64 0]) (by simp [results, Tryz.results74, go_sem, r0, r1, r2, r3]) rfl ?_
    exact ⟨rfl, below_set4 (below_drewN Hb0.out _) (by omega) _ _ _ _⟩
/-- the call returns a new slice of pairs -/
def RetPs (l : List (Int × Int)) (w : World) : Ending → World → Prop := fun e w' => ∃ A c, e = .returned (.slice A l.length c) ∧ OwnP w' w.heap.size (.slice A l.length c) l ∧ Below w.heap.size w w'
theorem own_emptyPs (w : World) : OwnP (w.alloc (.cells #[] 43)) w.heap.size (.slice (some ⟨w.heap.size, 0, none⟩) 0 0) [] :=
  World.ownsRow_made w #[] 0 (Nat.le_refl _) (by decide) (by simp)
set_option maxRecDepth 100000 in
/-- 'out = append(out, xs...)', out a slice of pairs of the call's own -/
theorem wpList_appPq {ops : Array Oper} {rest : List Oper} {o : Oper} {a : Act} {Q : Exit → Act → World → Prop} (hgd : o.guard = none) (s x : Operand)
    (ho : o.op = .call { callee := .builtin .append, args := #[s, x], argTypes := #[25, 25] })
    (X : World) (base : Nat) (v : Value) (l : List (Int × Int)) (B : Option Addr) (l2 : List (Int × Int)) (c : Nat) (hown : OwnP X base v l) (hr : RP X B l2) (hB : B = none → l2 = [] ∧ c = 0) (hs : a.eval s = v) (hx : a.eval x = .slice B l2.length c)
    (hlen : l.length + l2.length ≤ 1000000) (hbase : base ≤ X.heap.size)
    (h : ∀ v' w', OwnP w' base v' (l ++ l2) → Below base X w' → X.grownBy w' v.ownBlock → wpList Tryz.prog ops Q rest (a.put o.dst v') w') :
    wpList Tryz.prog ops Q (o :: rest) a X := by
  obtain ⟨i0, hi, hz0, hz1, hz2⟩ := info_parts info_pair
  cases B with
  | none =>
    obtain ⟨rfl, rfl⟩ := hB rfl
    refine wpList_append_own_none hgd s x 25 ho base 43 i0 2 Tryz.underlying25 hi v l.length _ hs hown hx (h v X ?_ (Below.refl _ _) (grownBy_refl _ _))
    rw [List.append_nil]; exact hown
  | some ad =>
    refine wpList_append_own _ hgd s x 25 ho base 43 i0 (.agg #[.int .i64 0, .int .i64 0]) 2 16 Tryz.underlying25 hi hz0 hz1 hz2 rfl (by decide) v l.length _ hs hown ad l2.length c (flatP l2) hx (flatP_length l2) (fun j u hu => ?_)
      (by
        intro u hu
        unfold flatP at hu
        rw [List.mem_flatMap] at hu
        obtain ⟨y, _, hy⟩ := hu
        simp at hy
        rcases hy with rfl | rfl <;> rfl) (by unfold maxLen; omega) (by omega) hbase ?_
    · have hj := (List.getElem?_eq_some_iff.1 hu).1
      rw [flatP_length] at hj
      have hk : j / 2 < l2.length := by omega
      obtain ⟨b, off, hA, hc, hd⟩ := hr (j / 2) hk
      injection hA with hA; subst hA
      have hf := flatP_at l2 (j / 2) hk
      have hadd : (⟨b, off, none⟩ : Addr).add j = ⟨b, off + j, none⟩ := by unfold Addr.add; split <;> simp_all
      rw [hadd]
      rcases Nat.mod_two_eq_zero_or_one j with hm | hm
      · rw [show j / 2 * 2 = j by omega] at hc hf
        rw [hc, ← hu]; exact hf.1.symm
      · rw [show off + j / 2 * 2 + 1 = off + j by omega] at hd
        rw [show j / 2 * 2 + 1 = j by omega] at hf
        rw [hd, ← hu]; exact hf.2.symm
    · intro v' w1 hown' hgrow _
      refine h v' w1 ?_ ((Below.refl base X).grown hgrow hbase (fun k hk => (hown.lt k hk).1)) hgrow
      unfold OwnP; rw [List.length_append]; simp only [flatP, List.flatMap_append]; exact hown'
set_option maxRecDepth 100000 in
set_option maxHeartbeats 1000000 in
theorem clonePs_any (A : Option Addr) (l : List (Int × Int)) (c : Nat) (w : World) (hr : RP w A l) (hn : A = none → l = [] ∧ c = 0) (hl : l.length ≤ 100000) :
    Calls Tryz.prog 41 #[.slice A l.length c] w (RetPs l w) := by
  cases A with
  | none =>
    obtain ⟨rfl, rfl⟩ := hn rfl
    have heq : ∀ W : World, (binOp .eql 25 (.slice none 0 0) (.slice none 0 0)).run Tryz.prog W = .ok (.bool true) W := fun W => Lib.run_eql_slice_nil W _ _ none _ _ 0 0 Tryz.underlying25
    go_enter Tryz.func41, Tryz.ntmps41
    go_wp2_with fail
    go_ret
    exact ⟨none, 0, rfl, OwnP.nil _ _, Below.refl _ _⟩
  | some ad =>
    have Hr := Lib.hid (hr.below (newB w (.cells #[] 43)))
    clear hr hn
    have heq : ∀ W : World, (binOp .eql 25 (.slice (some ad) l.length c) (.slice none 0 0)).run Tryz.prog W = .ok (.bool false) W := fun W => Lib.run_eql_slice_nil W _ _ (some ad) _ _ 0 0 Tryz.underlying25
    go_enter Tryz.func41, Tryz.ntmps41
    go_wp2_with (at_builtin; refine wpList_appPq (by rfl) _ _ (by rfl) (w.alloc (.cells #[] 43)) w.heap.size _ [] (some ad) l c (own_emptyPs w) Hr.out (by simp) (by rfl) (by rfl) (by simp; omega) (by simp) ?_; intro v' w1 hown hb1 hg1; rw [List.nil_append] at hown; (obtain ⟨A', c', rfl, _, _⟩ := OwnP.form hown); have Hown := Lib.hid hown; clear hown hg1)
    go_ret
    exact ⟨A', c', rfl, Hown.out, (newB w _).trans hb1⟩
set_option maxRecDepth 100000 in
set_option maxHeartbeats 1000000 in
theorem cloneM_any (A : Option Addr) (l : List Mv) (c : Nat) (w : World) (hr : RM w A l) (hn : A = none → l = [] ∧ c = 0) (hl : l.length ≤ 100000) :
    Calls Tryz.prog 43 #[.slice A l.length c] w (RetMn l w) := by
  cases A with
  | none =>
    obtain ⟨rfl, rfl⟩ := hn rfl
    have heq : ∀ W : World, (binOp .eql 53 (.slice none 0 0) (.slice none 0 0)).run Tryz.prog W = .ok (.bool true) W := fun W => Lib.run_eql_slice_nil W _ _ none _ _ 0 0 Tryz.underlying53
    go_enter Tryz.func43, Tryz.ntmps43
    go_wp2_with fail
    go_ret
    exact ⟨none, 0, rfl, OwnM.nil _ _, Below.refl _ _⟩
  | some ad =>
    have Hr := Lib.hid (hr.below (newB w (.cells #[] 89)))
    clear hr hn
    have heq : ∀ W : World, (binOp .eql 53 (.slice (some ad) l.length c) (.slice none 0 0)).run Tryz.prog W = .ok (.bool false) W := fun W => Lib.run_eql_slice_nil W _ _ (some ad) _ _ 0 0 Tryz.underlying53
    go_enter Tryz.func43, Tryz.ntmps43
    go_wp2_with (at_builtin; refine wpList_appMs (by rfl) _ _ (by rfl) (w.alloc (.cells #[] 89)) w.heap.size _ [] (some ad) l c (own_emptyM w) Hr.out (by simp) (by rfl) (by rfl) (by simp; omega) (by simp) ?_; intro v' w1 hown hb1 hg1; rw [List.nil_append] at hown; (obtain ⟨A', c', rfl, _, _, _⟩ := OwnM.form hown); have Hown := Lib.hid hown; clear hown hg1)
    go_ret
    exact ⟨A', c', rfl, Hown.out, (newB w _).trans hb1⟩
end Go.Proofs.YthkknlnfdckdfaaGreatDoor

/- Package protocol: Apply. (The regions of several orders are printed by gen_apl.py.) -/
namespace Go.Proofs.YthkknlnfdckdfaaGreatDoor
open Go.ChangeShapes Go.WideShapes Go.ChangeAt Go.RowKit

/-- the box that was laid, if it was -/
def BxM (o : Option Nat) (m : Nat) (w : World) : Prop := ∀ q, o = some q → m ≤ q ∧ Blk w q 89 #[.int .i64 0, .int .i64 0, .int .i64 0, .int .i64 0]
theorem BxM.no {m : Nat} {w : World} : BxM Option.none m w := fun q e => by cases e
theorem BxM.new {m : Nat} {w : World} (h : m ≤ w.heap.size) : BxM (some w.heap.size) m (w.alloc (.cells #[.int .i64 0, .int .i64 0, .int .i64 0, .int .i64 0] 89)) := fun q e => by
  injection e with e; subst e; exact ⟨h, Blk.new _ _ _⟩
theorem BxM.below {o : Option Nat} {m : Nat} {w w' : World} (h : BxM o m w) (hb : Below w.heap.size w w') : BxM o m w' := fun q e => ⟨(h q e).1, (h q e).2.below hb (h q e).2.lt⟩
theorem set6 {w : World} {g : Nat} {t : TypeId} {y0 y1 y2 y3 y4 y5 : Value} (h : Blk w g t #[y0, y1, y2, y3, y4, y5]) (x0 x1 x2 x3 x4 x5 : Value) : Blk ((((((w.setCell ⟨g, 0, none⟩ x0).setCell ⟨g, 1, none⟩ x1).setCell ⟨g, 2, none⟩ x2).setCell ⟨g, 3, none⟩ x3).setCell ⟨g, 4, none⟩ x4).setCell ⟨g, 5, none⟩ x5) g t #[x0, x1, x2, x3, x4, x5] := by
  have h0 : Blk (w.setCell ⟨g, 0, none⟩ x0) g t #[x0, y1, y2, y3, y4, y5] := h.set_ 0 x0
  have h1 : Blk ((w.setCell ⟨g, 0, none⟩ x0).setCell ⟨g, 1, none⟩ x1) g t #[x0, x1, y2, y3, y4, y5] := h0.set_ 1 x1
  have h2 : Blk (((w.setCell ⟨g, 0, none⟩ x0).setCell ⟨g, 1, none⟩ x1).setCell ⟨g, 2, none⟩ x2) g t #[x0, x1, x2, y3, y4, y5] := h1.set_ 2 x2
  have h3 := h2.set_ 3 x3
  have h4 := h3.set_ 4 x4
  exact h4.set_ 5 x5
theorem below_set6 {B : Nat} {w w' : World} {g : Nat} (h : Below B w w') (hg : B ≤ g) (x0 x1 x2 x3 x4 x5 : Value) : Below B w ((((((w'.setCell ⟨g, 0, none⟩ x0).setCell ⟨g, 1, none⟩ x1).setCell ⟨g, 2, none⟩ x2).setCell ⟨g, 3, none⟩ x3).setCell ⟨g, 4, none⟩ x4).setCell ⟨g, 5, none⟩ x5) := (((((h.setCell (p := ⟨g, 0, none⟩) hg x0).setCell (p := ⟨g, 1, none⟩) hg x1).setCell (p := ⟨g, 2, none⟩) hg x2).setCell (p := ⟨g, 3, none⟩) hg x3).setCell (p := ⟨g, 4, none⟩) hg x4).setCell (p := ⟨g, 5, none⟩) hg x5
theorem own_far {w : World} {base : Nat} {e : TypeId} {size n : Nat} {v : Value} {xs : List Value} (h : w.ownsRow base e size v n xs) {g : Nat} (hg : g < base) (i : Nat) (u : Value) : (w.setCell ⟨g, i, none⟩ u).ownsRow base e size v n xs :=
  World.ownsRow.kept h (grownBy_setCell w g i u) (.inr fun e => by have := (World.ownsRow.lt h g e).1; omega)
theorem own_set6 {w : World} {base : Nat} {e : TypeId} {size n : Nat} {v : Value} {xs : List Value} (h : w.ownsRow base e size v n xs) {g : Nat} (hg : g < base) (x0 x1 x2 x3 x4 x5 : Value) : ((((((w.setCell ⟨g, 0, none⟩ x0).setCell ⟨g, 1, none⟩ x1).setCell ⟨g, 2, none⟩ x2).setCell ⟨g, 3, none⟩ x3).setCell ⟨g, 4, none⟩ x4).setCell ⟨g, 5, none⟩ x5).ownsRow base e size v n xs :=
  own_far (own_far (own_far (own_far (own_far (own_far h hg 0 x0) hg 1 x1) hg 2 x2) hg 3 x3) hg 4 x4) hg 5 x5
theorem dgF {w : World} {g : Nat} {t : TypeId} {cs : Array Value} (h : Blk w g t cs) : w.frozen? ⟨g, 0, none⟩ = false ∧ w.frozen? ⟨g, 1, none⟩ = false ∧ w.frozen? ⟨g, 2, none⟩ = false ∧ w.frozen? ⟨g, 3, none⟩ = false ∧ w.frozen? ⟨g, 4, none⟩ = false ∧ w.frozen? ⟨g, 5, none⟩ = false :=
  ⟨h.frozen 0, h.frozen 1, h.frozen 2, h.frozen 3, h.frozen 4, h.frozen 5⟩
theorem new_rm1 (w : World) (m : Mv) : RM (w.alloc (.cells #[.int .i64 m.1, .int .i64 m.2.1, .int .i64 m.2.2.1, .int .i64 m.2.2.2] 89)) (some ⟨w.heap.size, 0, none⟩) [m] := fun k hk => by
  rw [List.length_singleton] at hk
  obtain rfl : k = 0 := by omega
  have h := Blk.new w 89 #[.int .i64 m.1, .int .i64 m.2.1, .int .i64 m.2.2.1, .int .i64 m.2.2.2]
  exact ⟨w.heap.size, 0, rfl, h.cell 0, h.cell 1, h.cell 2, h.cell 3⟩
/-- the call returns the dialogue with one more move -/
def RetApl (n : Nat) (l : List (Int × Int)) (root l0 l1 : Int) (ms : List Mv) (w : World) : Ending → World → Prop := fun e w' => ∃ A c M cm, e = .returned (.tuple #[.agg #[.int .i64 (n : Int), .slice A l.length c, .int .i64 root, .int .i64 l0, .int .i64 l1, .slice M ms.length cm], .int .i64 0]) ∧ OwnP w' w.heap.size (.slice A l.length c) l ∧ OwnM w' w.heap.size (.slice M ms.length cm) ms ∧ Below w.heap.size w w'
set_option maxRecDepth 100000 in
set_option maxHeartbeats 8000000 in
theorem apply_any (n : Nat) (A : Option Addr) (l : List (Int × Int)) (c : Nat) (root l0 l1 : Int) (M : Option Addr) (ms : List Mv) (cm : Nat) (m : Mv) (w : World) (hp : RP w A l) (hA : A = none → l = [] ∧ c = 0) (hv : InR n l) (hr : RM w M ms) (hm : OkM ms) (hl : ms.length ≤ 250) (hll : l.length ≤ 1600) (ht : turnF l0 l1 l ms ≠ 0) (hmay : MayB l ms m) :
    Calls Tryz.prog 46 #[.agg #[.int .i64 (n : Int), .slice A l.length c, .int .i64 root, .int .i64 l0, .int .i64 l1, .slice M ms.length cm], .agg #[.int .i64 m.1, .int .i64 m.2.1, .int .i64 m.2.2.1, .int .i64 m.2.2.2]] w (RetApl n l root l0 l1 (ms ++ [m]) w) := by
  have hpos := hm.pos
  have hMb : ∀ b o, M = some ⟨b, o, none⟩ → b < w.heap.size := fun b o e => by
    obtain ⟨b', o', e', h0, _⟩ := hr 0 hpos
    rw [e] at e'; injection e' with e'; injection e' with e1 _ _
    rw [e1]; exact lt_of_cell h0
  have HM := Lib.hid hm; have Hv := Lib.hid hv; have Hmay := Lib.hid hmay; have HA := Lib.hid hA; have HMb := Lib.hid hMb
  have HMn := Lib.hid (show M = none → ms = [] ∧ cm = 0 from fun e => by obtain ⟨b', o', e', _⟩ := hr 0 hpos; rw [e] at e'; cases e')
  have hne : (turnF l0 l1 l ms == 0) = false := beq_eq_false_iff_ne.2 ht
  clear hm hv hmay hA hMb ht
  go_enter Tryz.func46, Tryz.ntmps46
  go_upto_region 1 with fail
  obtain ⟨W0, hW, k0, k1, k2, hb0, hs0⟩ := boxed3A w 55 89 55 #[.int .i64 (n : Int), .slice A l.length c, .int .i64 root, .int .i64 l0, .int .i64 l1, .slice M ms.length cm] #[.int .i64 m.1, .int .i64 m.2.1, .int .i64 m.2.2.1, .int .i64 m.2.2.2] #[.int .i64 0, .slice none 0 0, .int .i64 0, .int .i64 0, .int .i64 0, .slice none 0 0]
  rw [hW]
  obtain ⟨z0, z1, z2, z3, z4, z5⟩ := dgC k0
  have hp0 := hp.below hb0; have hr0 := hr.below hb0
  clear hW hp hr
  go_wp2_with fail
  refine (turn_any n A l c root l0 l1 M ms cm W0 hp0 hr0 HM.out (by omega) hll).mono ?_
  rintro e w1 ⟨rfl, hb1⟩
  have Hp1 := Lib.hid (hp0.below hb1); have Hr1 := Lib.hid (hr0.below hb1)
  have hs1 := hb1.size
  have kd := k0.below hb1 (by omega)
  have km := k1.below hb1 (by omega)
  have Kt := Lib.hid (k2.below hb1 (by omega))
  obtain ⟨e0, e1, e2, e3, e4, e5⟩ := dgC kd
  obtain ⟨u0, u1, u2, u3, _, _, _, _⟩ := mvC km
  have Hb1 := Lib.hid (hb0.trans (hb1.mono hb0.size))
  have Kd := Lib.hid kd
  clear k0 k1 k2 hb0 hp0 hr0 hb1 z0 z1 z2 z3 z4 z5 kd km
  go_upto_region 3 with fail
  clear hne
  go_cut [6, 7] (fun s6 s7 wx => ∃ q, s6 = Value.pointer (some ⟨q, 0, none⟩) ∧ s7 = Value.int .i64 0 ∧ w1.heap.size ≤ q ∧ Blk wx q 89 #[.int .i64 m.1, .int .i64 m.2.1, .int .i64 m.2.2.1, .int .i64 m.2.2.2] ∧ Below w1.heap.size w1 wx)
  case first =>
    refine wp_region_tree [1, 3, 7, 8] (fun w' => Below w1.heap.size w1 w') (fun w' => BxM none w1.heap.size w') 10 [0, 1, 2, 3, 4, 5, 6, 7, 8, 9] (by rfl) (by decide) (by kernel_rfl) (by kernel_rfl) (Below.refl _ _).drew BxM.no ?_
    refine TxtT.pure 0 (by rfl) (by rw [List.getElem?_toArray]; rfl) (by rfl) (by as_aux_lemma => kernel_rfl) (by rfl) ?_; apply Exists.intro; refine ⟨fun w1 hS1 => ?_, ?_⟩; (focus ((have g0 := (hS1.cell (lt_of_cell e0)).trans e0); (have g1 := (hS1.cell (lt_of_cell e1)).trans e1); (have g2 := (hS1.cell (lt_of_cell e2)).trans e2); (have g3 := (hS1.cell (lt_of_cell e3)).trans e3); (have g4 := (hS1.cell (lt_of_cell e4)).trans e4); (have g5 := (hS1.cell (lt_of_cell e5)).trans e5); go_simp; with_reducible rfl))
    rw [show List.erase [0, 1, 2, 3, 4, 5, 6, 7, 8, 9] 0 = [1, 2, 3, 4, 5, 6, 7, 8, 9] from rfl]; simp only [Act.put, List.setIfInBounds_toArray, List.set_cons_zero, List.set_cons_succ]
    refine TxtT.pure 2 (by rfl) (by rw [List.getElem?_toArray]; rfl) (by rfl) (by as_aux_lemma => kernel_rfl) (by rfl) ?_; apply Exists.intro; refine ⟨fun w1 hS1 => ?_, ?_⟩; (focus ((have g0 := (hS1.cell (lt_of_cell u0)).trans u0); (have g1 := (hS1.cell (lt_of_cell u1)).trans u1); (have g2 := (hS1.cell (lt_of_cell u2)).trans u2); (have g3 := (hS1.cell (lt_of_cell u3)).trans u3); go_simp; with_reducible rfl))
    rw [show List.erase [1, 2, 3, 4, 5, 6, 7, 8, 9] 2 = [1, 3, 4, 5, 6, 7, 8, 9] from rfl]; simp only [Act.put, List.setIfInBounds_toArray, List.set_cons_zero, List.set_cons_succ]
    refine TxtT.two 1 7 (by as_aux_lemma => kernel_rfl) (by rw [List.getElem?_toArray]; rfl) (by rw [List.getElem?_toArray]; rfl) (by rfl) (by rfl) (by rfl) (by rfl) (fun v => ∃ gS gL, v = Value.agg #[.int .i64 (n : Int), .slice A l.length c, .int .i64 root, .int .i64 l0, .int .i64 l1, .slice M ms.length cm, .slice (some ⟨gS, 0, none⟩) ms.length ms.length, .int .i64 (leadr ms), .slice (some ⟨gL, 0, none⟩) ms.length ms.length]) (fun v w' => BxM none w1.heap.size w' ∧ ∀ gS gL, v = Value.agg #[.int .i64 (n : Int), .slice A l.length c, .int .i64 root, .int .i64 l0, .int .i64 l1, .slice M ms.length cm, .slice (some ⟨gS, 0, none⟩) ms.length ms.length, .int .i64 (leadr ms), .slice (some ⟨gL, 0, none⟩) ms.length ms.length] → RowB w' gL ms.length (ldF ms)) (fun v => ∃ q, v = Value.pointer (some ⟨q, 0, none⟩)) (fun v w' => ∃ q, v = Value.pointer (some ⟨q, 0, none⟩) ∧ BxM (some q) w1.heap.size w') (fun w1 hS1 hJ1 => ?_) (fun w1 hS1 hJ1 => ?_) ?_ ?_
    · refine Eff.call (f := 67) (args := #[.agg #[.int .i64 (n : Int), .slice A l.length c, .int .i64 root, .int .i64 l0, .int .i64 l1, .slice M ms.length cm]]) (by go_simp) ((of_any n A l.length c root l0 l1 M ms cm w1 (Hr1.out.below hS1) HM.out (by omega)).mono ?_)
      rintro e w' ⟨gS, gL, rfl, _, hrl, hb⟩
      refine ⟨_, rfl, hS1.trans (hb.mono hS1.size), ⟨gS, gL, rfl⟩, BxM.below hJ1 hb, fun gS2 gL2 e => ?_⟩
      simp only [Value.agg.injEq, Array.mk.injEq, List.cons.injEq, Value.slice.injEq, Option.some.injEq, Addr.mk.injEq, true_and, and_true] at e
      obtain ⟨rfl, rfl⟩ := e
      exact hrl
    · exact Eff.value (w' := w1.alloc (.cells #[.int .i64 0, .int .i64 0, .int .i64 0, .int .i64 0] 89)) (v := .pointer (some ⟨w1.heap.size, 0, none⟩)) (by go_simp) ⟨hS1.trans ((newB _ _).mono hS1.size), ⟨_, rfl⟩, _, rfl, BxM.new hS1.size⟩
    ·
      rintro _ ⟨gS, gL, rfl⟩
      rw [show List.erase [1, 3, 4, 5, 6, 7, 8, 9] 1 = [3, 4, 5, 6, 7, 8, 9] from rfl]; simp only [Act.put, List.setIfInBounds_toArray, List.set_cons_zero, List.set_cons_succ]
      refine TxtT.weakJ (J2 := (fun w' => BxM none w1.heap.size w' ∧ RowB w' gL ms.length (ldF ms))) (fun w1 h => ⟨h.1, h.2 gS gL rfl⟩) ?_
      refine TxtT.two 3 7 (by as_aux_lemma => kernel_rfl) (by rw [List.getElem?_toArray]; rfl) (by rw [List.getElem?_toArray]; rfl) (by rfl) (by rfl) (by rfl) (by rfl) (fun v => v = Value.tuple #[.agg #[.int .i64 m.1, .int .i64 m.2.1, .int .i64 m.2.2.1, .int .i64 m.2.2.2], .int .i64 0]) (fun _ w' => BxM none w1.heap.size w') (fun v => ∃ q, v = Value.pointer (some ⟨q, 0, none⟩)) (fun v w' => ∃ q, v = Value.pointer (some ⟨q, 0, none⟩) ∧ BxM (some q) w1.heap.size w' ∧ RowB w' gL ms.length (ldF ms)) (fun w1 hS1 hJ1 => ?_) (fun w1 hS1 hJ1 => ?_) ?_ ?_
      · refine Eff.call (f := 74) (args := #[.agg #[.int .i64 (n : Int), .slice A l.length c, .int .i64 root, .int .i64 l0, .int .i64 l1, .slice M ms.length cm, .slice (some ⟨gS, 0, none⟩) ms.length ms.length, .int .i64 (leadr ms), .slice (some ⟨gL, 0, none⟩) ms.length ms.length], .agg #[.int .i64 m.1, .int .i64 m.2.1, .int .i64 m.2.2.1, .int .i64 m.2.2.2]]) (by go_simp) ((judged_any n A l c root l0 l1 M ms cm (some ⟨gS, 0, none⟩) ms.length ms.length gL m w1 (Hp1.out.below hS1) Hv.out (Hr1.out.below hS1) HM.out (by omega) hll hJ1.2 Hmay.out).mono ?_)
        rintro e w' ⟨rfl, hb⟩
        exact ⟨_, rfl, hS1.trans (hb.mono hS1.size), rfl, BxM.below hJ1.1 hb⟩
      · exact Eff.value (w' := w1.alloc (.cells #[.int .i64 0, .int .i64 0, .int .i64 0, .int .i64 0] 89)) (v := .pointer (some ⟨w1.heap.size, 0, none⟩)) (by go_simp) ⟨hS1.trans ((newB _ _).mono hS1.size), ⟨_, rfl⟩, _, rfl, BxM.new hS1.size, RowB.below hJ1.2 (newB _ _)⟩
      ·
        rintro _ rfl
        rw [show List.erase [3, 4, 5, 6, 7, 8, 9] 3 = [4, 5, 6, 7, 8, 9] from rfl]; simp only [Act.put, List.setIfInBounds_toArray, List.set_cons_zero, List.set_cons_succ]
        refine TxtT.pure 4 (by rfl) (by rw [List.getElem?_toArray]; rfl) (by rfl) (by as_aux_lemma => kernel_rfl) (by rfl) ?_; apply Exists.intro; refine ⟨fun w1 hS1 => ?_, ?_⟩; (focus (skip; go_simp; with_reducible rfl))
        rw [show List.erase [4, 5, 6, 7, 8, 9] 4 = [5, 6, 7, 8, 9] from rfl]; simp only [Act.put, List.setIfInBounds_toArray, List.set_cons_zero, List.set_cons_succ]
        refine TxtT.pure 5 (by rfl) (by rw [List.getElem?_toArray]; rfl) (by rfl) (by as_aux_lemma => kernel_rfl) (by rfl) ?_; apply Exists.intro; refine ⟨fun w1 hS1 => ?_, ?_⟩; (focus (skip; go_simp; with_reducible rfl))
        rw [show List.erase [5, 6, 7, 8, 9] 5 = [6, 7, 8, 9] from rfl]; simp only [Act.put, List.setIfInBounds_toArray, List.set_cons_zero, List.set_cons_succ]
        refine TxtT.pure 6 (by rfl) (by rw [List.getElem?_toArray]; rfl) (by rfl) (by as_aux_lemma => kernel_rfl) (by rfl) ?_; apply Exists.intro; refine ⟨fun w1 hS1 => ?_, ?_⟩; (focus (skip; go_simp; with_reducible rfl))
        rw [show List.erase [6, 7, 8, 9] 6 = [7, 8, 9] from rfl]; simp only [Act.put, List.setIfInBounds_toArray, List.set_cons_zero, List.set_cons_succ]
        refine TxtT.one 7 (by as_aux_lemma => kernel_rfl) (by rw [List.getElem?_toArray]; rfl) (by rfl) (by rfl) (fun v => ∃ q, v = Value.pointer (some ⟨q, 0, none⟩)) (fun v w' => ∃ q, v = Value.pointer (some ⟨q, 0, none⟩) ∧ BxM (some q) w1.heap.size w') (fun w1 hS1 hJ1 => ?_) ?_
        · exact Eff.value (w' := w1.alloc (.cells #[.int .i64 0, .int .i64 0, .int .i64 0, .int .i64 0] 89)) (v := .pointer (some ⟨w1.heap.size, 0, none⟩)) (by go_simp) ⟨hS1.trans ((newB _ _).mono hS1.size), ⟨_, rfl⟩, _, rfl, BxM.new hS1.size⟩
        rintro _ ⟨q, rfl⟩
        rw [show List.erase [7, 8, 9] 7 = [8, 9] from rfl]; simp only [Act.put, List.setIfInBounds_toArray, List.set_cons_zero, List.set_cons_succ]
        refine TxtT.weakJ (J2 := (fun w' => BxM (some q) w1.heap.size w')) (fun w1 h => by obtain ⟨q', hq, h⟩ := h; injection hq with hq; injection hq with hq; injection hq with hq _ _; subst hq; exact h) ?_
        refine TxtT.one 8 (by as_aux_lemma => kernel_rfl) (by rw [List.getElem?_toArray]; rfl) (by rfl) (by rfl) (fun v => v = undef) (fun _ w' => w1.heap.size ≤ q ∧ Blk w' q 89 #[.int .i64 m.1, .int .i64 m.2.1, .int .i64 m.2.2.1, .int .i64 m.2.2.2]) (fun w1 hS1 hJ1 => ?_) ?_
        · obtain ⟨hq, hk⟩ := hJ1 q rfl
          obtain ⟨g0, g1, g2, g3, f0, f1, f2, f3⟩ := mvC hk
          exact Eff.skip (w' := (((w1.setCell ⟨q, 0, none⟩ (.int .i64 m.1)).setCell ⟨q, 1, none⟩ (.int .i64 m.2.1)).setCell ⟨q, 2, none⟩ (.int .i64 m.2.2.1)).setCell ⟨q, 3, none⟩ (.int .i64 m.2.2.2)) (by go_simp) ⟨below_set4 hS1 hq _ _ _ _, rfl, hq, set4 hk _ _ _ _⟩
        rintro _ rfl
        rw [show List.erase [8, 9] 8 = [9] from rfl]; simp only [Act.put]
        refine TxtT.pure 9 (by rfl) (by rw [List.getElem?_toArray]; rfl) (by rfl) (by as_aux_lemma => kernel_rfl) (by rfl) ?_; apply Exists.intro; refine ⟨fun w1 hS1 => ?_, ?_⟩; (focus (skip; go_simp; with_reducible rfl))
        rw [show List.erase [9] 9 = [] from rfl]; simp only [Act.put, List.setIfInBounds_toArray, List.set_cons_zero, List.set_cons_succ]
        refine ⟨rfl, fun w1 hS1 hJ1 => ?_⟩
        go_wp2_with fail
        go_meet
        exact ⟨q, rfl, rfl, hJ1.1, hJ1.2, hS1⟩
      ·
        rintro _ ⟨q, rfl⟩
        rw [show List.erase [3, 4, 5, 6, 7, 8, 9] 7 = [3, 4, 5, 6, 8, 9] from rfl]; simp only [Act.put, List.setIfInBounds_toArray, List.set_cons_zero, List.set_cons_succ]
        refine TxtT.weakJ (J2 := (fun w' => BxM (some q) w1.heap.size w' ∧ RowB w' gL ms.length (ldF ms))) (fun w1 h => by obtain ⟨q', hq, h⟩ := h; injection hq with hq; injection hq with hq; injection hq with hq _ _; subst hq; exact h) ?_
        refine TxtT.one 3 (by as_aux_lemma => kernel_rfl) (by rw [List.getElem?_toArray]; rfl) (by rfl) (by rfl) (fun v => v = Value.tuple #[.agg #[.int .i64 m.1, .int .i64 m.2.1, .int .i64 m.2.2.1, .int .i64 m.2.2.2], .int .i64 0]) (fun _ w' => BxM (some q) w1.heap.size w') (fun w1 hS1 hJ1 => ?_) ?_
        · refine Eff.call (f := 74) (args := #[.agg #[.int .i64 (n : Int), .slice A l.length c, .int .i64 root, .int .i64 l0, .int .i64 l1, .slice M ms.length cm, .slice (some ⟨gS, 0, none⟩) ms.length ms.length, .int .i64 (leadr ms), .slice (some ⟨gL, 0, none⟩) ms.length ms.length], .agg #[.int .i64 m.1, .int .i64 m.2.1, .int .i64 m.2.2.1, .int .i64 m.2.2.2]]) (by go_simp) ((judged_any n A l c root l0 l1 M ms cm (some ⟨gS, 0, none⟩) ms.length ms.length gL m w1 (Hp1.out.below hS1) Hv.out (Hr1.out.below hS1) HM.out (by omega) hll hJ1.2 Hmay.out).mono ?_)
          rintro e w' ⟨rfl, hb⟩
          exact ⟨_, rfl, hS1.trans (hb.mono hS1.size), rfl, BxM.below hJ1.1 hb⟩
        rintro _ rfl
        rw [show List.erase [3, 4, 5, 6, 8, 9] 3 = [4, 5, 6, 8, 9] from rfl]; simp only [Act.put, List.setIfInBounds_toArray, List.set_cons_zero, List.set_cons_succ]
        refine TxtT.pure 4 (by rfl) (by rw [List.getElem?_toArray]; rfl) (by rfl) (by as_aux_lemma => kernel_rfl) (by rfl) ?_; apply Exists.intro; refine ⟨fun w1 hS1 => ?_, ?_⟩; (focus (skip; go_simp; with_reducible rfl))
        rw [show List.erase [4, 5, 6, 8, 9] 4 = [5, 6, 8, 9] from rfl]; simp only [Act.put, List.setIfInBounds_toArray, List.set_cons_zero, List.set_cons_succ]
        refine TxtT.pure 5 (by rfl) (by rw [List.getElem?_toArray]; rfl) (by rfl) (by as_aux_lemma => kernel_rfl) (by rfl) ?_; apply Exists.intro; refine ⟨fun w1 hS1 => ?_, ?_⟩; (focus (skip; go_simp; with_reducible rfl))
        rw [show List.erase [5, 6, 8, 9] 5 = [6, 8, 9] from rfl]; simp only [Act.put, List.setIfInBounds_toArray, List.set_cons_zero, List.set_cons_succ]
        refine TxtT.pure 6 (by rfl) (by rw [List.getElem?_toArray]; rfl) (by rfl) (by as_aux_lemma => kernel_rfl) (by rfl) ?_; apply Exists.intro; refine ⟨fun w1 hS1 => ?_, ?_⟩; (focus (skip; go_simp; with_reducible rfl))
        rw [show List.erase [6, 8, 9] 6 = [8, 9] from rfl]; simp only [Act.put, List.setIfInBounds_toArray, List.set_cons_zero, List.set_cons_succ]
        refine TxtT.one 8 (by as_aux_lemma => kernel_rfl) (by rw [List.getElem?_toArray]; rfl) (by rfl) (by rfl) (fun v => v = undef) (fun _ w' => w1.heap.size ≤ q ∧ Blk w' q 89 #[.int .i64 m.1, .int .i64 m.2.1, .int .i64 m.2.2.1, .int .i64 m.2.2.2]) (fun w1 hS1 hJ1 => ?_) ?_
        · obtain ⟨hq, hk⟩ := hJ1 q rfl
          obtain ⟨g0, g1, g2, g3, f0, f1, f2, f3⟩ := mvC hk
          exact Eff.skip (w' := (((w1.setCell ⟨q, 0, none⟩ (.int .i64 m.1)).setCell ⟨q, 1, none⟩ (.int .i64 m.2.1)).setCell ⟨q, 2, none⟩ (.int .i64 m.2.2.1)).setCell ⟨q, 3, none⟩ (.int .i64 m.2.2.2)) (by go_simp) ⟨below_set4 hS1 hq _ _ _ _, rfl, hq, set4 hk _ _ _ _⟩
        rintro _ rfl
        rw [show List.erase [8, 9] 8 = [9] from rfl]; simp only [Act.put]
        refine TxtT.pure 9 (by rfl) (by rw [List.getElem?_toArray]; rfl) (by rfl) (by as_aux_lemma => kernel_rfl) (by rfl) ?_; apply Exists.intro; refine ⟨fun w1 hS1 => ?_, ?_⟩; (focus (skip; go_simp; with_reducible rfl))
        rw [show List.erase [9] 9 = [] from rfl]; simp only [Act.put, List.setIfInBounds_toArray, List.set_cons_zero, List.set_cons_succ]
        refine ⟨rfl, fun w1 hS1 hJ1 => ?_⟩
        go_wp2_with fail
        go_meet
        exact ⟨q, rfl, rfl, hJ1.1, hJ1.2, hS1⟩
    ·
      rintro _ ⟨q, rfl⟩
      rw [show List.erase [1, 3, 4, 5, 6, 7, 8, 9] 7 = [1, 3, 4, 5, 6, 8, 9] from rfl]; simp only [Act.put, List.setIfInBounds_toArray, List.set_cons_zero, List.set_cons_succ]
      refine TxtT.weakJ (J2 := (fun w' => BxM (some q) w1.heap.size w')) (fun w1 h => by obtain ⟨q', hq, h⟩ := h; injection hq with hq; injection hq with hq; injection hq with hq _ _; subst hq; exact h) ?_
      refine TxtT.one 1 (by as_aux_lemma => kernel_rfl) (by rw [List.getElem?_toArray]; rfl) (by rfl) (by rfl) (fun v => ∃ gS gL, v = Value.agg #[.int .i64 (n : Int), .slice A l.length c, .int .i64 root, .int .i64 l0, .int .i64 l1, .slice M ms.length cm, .slice (some ⟨gS, 0, none⟩) ms.length ms.length, .int .i64 (leadr ms), .slice (some ⟨gL, 0, none⟩) ms.length ms.length]) (fun v w' => BxM (some q) w1.heap.size w' ∧ ∀ gS gL, v = Value.agg #[.int .i64 (n : Int), .slice A l.length c, .int .i64 root, .int .i64 l0, .int .i64 l1, .slice M ms.length cm, .slice (some ⟨gS, 0, none⟩) ms.length ms.length, .int .i64 (leadr ms), .slice (some ⟨gL, 0, none⟩) ms.length ms.length] → RowB w' gL ms.length (ldF ms)) (fun w1 hS1 hJ1 => ?_) ?_
      · refine Eff.call (f := 67) (args := #[.agg #[.int .i64 (n : Int), .slice A l.length c, .int .i64 root, .int .i64 l0, .int .i64 l1, .slice M ms.length cm]]) (by go_simp) ((of_any n A l.length c root l0 l1 M ms cm w1 (Hr1.out.below hS1) HM.out (by omega)).mono ?_)
        rintro e w' ⟨gS, gL, rfl, _, hrl, hb⟩
        refine ⟨_, rfl, hS1.trans (hb.mono hS1.size), ⟨gS, gL, rfl⟩, BxM.below hJ1 hb, fun gS2 gL2 e => ?_⟩
        simp only [Value.agg.injEq, Array.mk.injEq, List.cons.injEq, Value.slice.injEq, Option.some.injEq, Addr.mk.injEq, true_and, and_true] at e
        obtain ⟨rfl, rfl⟩ := e
        exact hrl
      rintro _ ⟨gS, gL, rfl⟩
      rw [show List.erase [1, 3, 4, 5, 6, 8, 9] 1 = [3, 4, 5, 6, 8, 9] from rfl]; simp only [Act.put, List.setIfInBounds_toArray, List.set_cons_zero, List.set_cons_succ]
      refine TxtT.weakJ (J2 := (fun w' => BxM (some q) w1.heap.size w' ∧ RowB w' gL ms.length (ldF ms))) (fun w1 h => ⟨h.1, h.2 gS gL rfl⟩) ?_
      refine TxtT.one 3 (by as_aux_lemma => kernel_rfl) (by rw [List.getElem?_toArray]; rfl) (by rfl) (by rfl) (fun v => v = Value.tuple #[.agg #[.int .i64 m.1, .int .i64 m.2.1, .int .i64 m.2.2.1, .int .i64 m.2.2.2], .int .i64 0]) (fun _ w' => BxM (some q) w1.heap.size w') (fun w1 hS1 hJ1 => ?_) ?_
      · refine Eff.call (f := 74) (args := #[.agg #[.int .i64 (n : Int), .slice A l.length c, .int .i64 root, .int .i64 l0, .int .i64 l1, .slice M ms.length cm, .slice (some ⟨gS, 0, none⟩) ms.length ms.length, .int .i64 (leadr ms), .slice (some ⟨gL, 0, none⟩) ms.length ms.length], .agg #[.int .i64 m.1, .int .i64 m.2.1, .int .i64 m.2.2.1, .int .i64 m.2.2.2]]) (by go_simp) ((judged_any n A l c root l0 l1 M ms cm (some ⟨gS, 0, none⟩) ms.length ms.length gL m w1 (Hp1.out.below hS1) Hv.out (Hr1.out.below hS1) HM.out (by omega) hll hJ1.2 Hmay.out).mono ?_)
        rintro e w' ⟨rfl, hb⟩
        exact ⟨_, rfl, hS1.trans (hb.mono hS1.size), rfl, BxM.below hJ1.1 hb⟩
      rintro _ rfl
      rw [show List.erase [3, 4, 5, 6, 8, 9] 3 = [4, 5, 6, 8, 9] from rfl]; simp only [Act.put, List.setIfInBounds_toArray, List.set_cons_zero, List.set_cons_succ]
      refine TxtT.pure 4 (by rfl) (by rw [List.getElem?_toArray]; rfl) (by rfl) (by as_aux_lemma => kernel_rfl) (by rfl) ?_; apply Exists.intro; refine ⟨fun w1 hS1 => ?_, ?_⟩; (focus (skip; go_simp; with_reducible rfl))
      rw [show List.erase [4, 5, 6, 8, 9] 4 = [5, 6, 8, 9] from rfl]; simp only [Act.put, List.setIfInBounds_toArray, List.set_cons_zero, List.set_cons_succ]
      refine TxtT.pure 5 (by rfl) (by rw [List.getElem?_toArray]; rfl) (by rfl) (by as_aux_lemma => kernel_rfl) (by rfl) ?_; apply Exists.intro; refine ⟨fun w1 hS1 => ?_, ?_⟩; (focus (skip; go_simp; with_reducible rfl))
      rw [show List.erase [5, 6, 8, 9] 5 = [6, 8, 9] from rfl]; simp only [Act.put, List.setIfInBounds_toArray, List.set_cons_zero, List.set_cons_succ]
      refine TxtT.pure 6 (by rfl) (by rw [List.getElem?_toArray]; rfl) (by rfl) (by as_aux_lemma => kernel_rfl) (by rfl) ?_; apply Exists.intro; refine ⟨fun w1 hS1 => ?_, ?_⟩; (focus (skip; go_simp; with_reducible rfl))
      rw [show List.erase [6, 8, 9] 6 = [8, 9] from rfl]; simp only [Act.put, List.setIfInBounds_toArray, List.set_cons_zero, List.set_cons_succ]
      refine TxtT.one 8 (by as_aux_lemma => kernel_rfl) (by rw [List.getElem?_toArray]; rfl) (by rfl) (by rfl) (fun v => v = undef) (fun _ w' => w1.heap.size ≤ q ∧ Blk w' q 89 #[.int .i64 m.1, .int .i64 m.2.1, .int .i64 m.2.2.1, .int .i64 m.2.2.2]) (fun w1 hS1 hJ1 => ?_) ?_
      · obtain ⟨hq, hk⟩ := hJ1 q rfl
        obtain ⟨g0, g1, g2, g3, f0, f1, f2, f3⟩ := mvC hk
        exact Eff.skip (w' := (((w1.setCell ⟨q, 0, none⟩ (.int .i64 m.1)).setCell ⟨q, 1, none⟩ (.int .i64 m.2.1)).setCell ⟨q, 2, none⟩ (.int .i64 m.2.2.1)).setCell ⟨q, 3, none⟩ (.int .i64 m.2.2.2)) (by go_simp) ⟨below_set4 hS1 hq _ _ _ _, rfl, hq, set4 hk _ _ _ _⟩
      rintro _ rfl
      rw [show List.erase [8, 9] 8 = [9] from rfl]; simp only [Act.put]
      refine TxtT.pure 9 (by rfl) (by rw [List.getElem?_toArray]; rfl) (by rfl) (by as_aux_lemma => kernel_rfl) (by rfl) ?_; apply Exists.intro; refine ⟨fun w1 hS1 => ?_, ?_⟩; (focus (skip; go_simp; with_reducible rfl))
      rw [show List.erase [9] 9 = [] from rfl]; simp only [Act.put, List.setIfInBounds_toArray, List.set_cons_zero, List.set_cons_succ]
      refine ⟨rfl, fun w1 hS1 hJ1 => ?_⟩
      go_wp2_with fail
      go_meet
      exact ⟨q, rfl, rfl, hJ1.1, hJ1.2, hS1⟩
  obtain ⟨q, rfl, rfl, hq, hkq, hS⟩ := hcut
  have kd := Kd.out.below hS (by omega)
  have Kt2 := Lib.hid (Kt.out.below hS (by omega))
  obtain ⟨x0, x1, x2, x3, x4, x5⟩ := dgC kd
  have Hr2 := Lib.hid (Hr1.out.below hS); have Hp2 := Lib.hid (Hp1.out.below hS)
  have Hb2 := Lib.hid (Hb1.out.trans (hS.mono Hb1.out.size))
  have hs2 := hS.size
  have hqc := hkq.lt
  have Hkq := Lib.hid hkq; have Kd2 := Lib.hid kd
  clear e0 e1 e2 e3 e4 e5 u0 u1 u2 u3 hS kd hkq Hr1 Hp1 Hb1 Kd Kt
  go_upto_region 7 with fail
  obtain ⟨w8, hw8, k8, hb8, hs8⟩ := boxedA wc 55 #[.int .i64 (n : Int), .slice A l.length c, .int .i64 root, .int .i64 l0, .int .i64 l1, .slice M ms.length cm]
  rw [hw8]
  have kd8 := Kd2.out.below hb8 Kd2.out.lt
  obtain ⟨y0, y1, y2, y3, y4, y5⟩ := dgC kd8
  have hp8 := Hp2.out.below hb8
  have Hr8 := Lib.hid (Hr2.out.below hb8)
  have Kt8 := Lib.hid (Kt2.out.below hb8 (by omega)); have Kq8 := Lib.hid (Hkq.out.below hb8 hqc)
  have Hb8 := Lib.hid (Hb2.out.trans (hb8.mono Hb2.out.size))
  have Kd8 := Lib.hid kd8
  clear hw8 x0 x1 x2 x3 x4 x5 Hr2 Hp2 Hb2 Hkq Kd2 Kt2 hb8 kd8
  generalize hg8 : wc.heap.size = g8 at *
  go_wp2_with fail
  refine (clonePs_any A l c w8 hp8 HA.out (by omega)).mono ?_
  rintro e w9 ⟨A2, c2, rfl, ho2, hb9⟩
  have k9 := k8.below hb9 (by omega)
  have f1 := k9.frozen 1
  have c1 : w9.cell? ⟨g8, 1, none⟩ = some (.slice A l.length c) := k9.cell 1
  have K9 := Lib.hid (show Blk (w9.setCell ⟨g8, 1, none⟩ (.slice A2 l.length c2)) g8 55 #[.int .i64 (n : Int), .slice A2 l.length c2, .int .i64 root, .int .i64 l0, .int .i64 l1, .slice M ms.length cm] from k9.set_ 1 _)
  have Ho9 := Lib.hid (show OwnP (w9.setCell ⟨g8, 1, none⟩ (.slice A2 l.length c2)) w8.heap.size (.slice A2 l.length c2) l from own_far ho2 (by omega) 1 _)
  have hb98 := Below.setCell (p := ⟨g8, 1, none⟩) (hb9.mono (show g8 ≤ w8.heap.size by omega)) (Nat.le_refl _) (.slice A2 l.length c2)
  have hs9 := hb9.size
  have Hb9 := Lib.hid (Hb8.out.trans (hb98.mono (show w.heap.size ≤ g8 by have := Hb8.out.size; omega)))
  have Kd9 := Lib.hid (Kd8.out.below hb98 (by omega)); have Kt9 := Lib.hid (Kt8.out.below hb98 (by omega)); have Kq9 := Lib.hid (Kq8.out.below hb98 (by omega))
  have hr9 : RM (w9.setCell ⟨g8, 1, none⟩ (.slice A2 l.length c2)) M ms := (Hr8.out.below hb9).grown (grownBy_setCell w9 g8 1 _) (fun b o e => by have := HMb.out b o e; have := Hb8.out.size; omega)
  have Hr9 := Lib.hid hr9
  clear k8 k9 ho2 hb9 y0 y1 y2 y3 y4 y5 hp8 Hr8 hr9 Hb8 Kd8 Kt8 Kq8 hb98
  go_upto_region 8 with fail
  have hsz : (w9.setCell ⟨g8, 1, none⟩ (.slice A2 l.length c2)).heap.size = w9.heap.size := by simp
  generalize w9.setCell ⟨g8, 1, none⟩ (.slice A2 l.length c2) = W9 at *
  have hg9 : g8 < W9.heap.size := by omega
  have hG9 : w.heap.size ≤ g8 := by omega
  have hne0 : some w.heap.size ≠ some g8 := fun e => by injection e with e; omega
  have hneq : some q ≠ some g8 := fun e => by injection e with e; omega
  have hnet : some (w.heap.size + 2) ≠ some g8 := fun e => by injection e with e; omega
  refine wp_region_tree [2, 4, 5, 7] (fun w' => Near g8 W9.heap.size W9 w') (fun w' => Blk w' g8 55 #[.int .i64 (n : Int), .slice A2 l.length c2, .int .i64 root, .int .i64 l0, .int .i64 l1, .slice M ms.length cm]) 8 [0, 1, 2, 3, 4, 5, 6, 7] (by rfl) (by decide) (by kernel_rfl) (by kernel_rfl) (Near.of_below (Below.refl _ _).drew) (K9.out.below (Below.refl _ _).drew hg9) ?_
  refine TxtT.pure 0 (by rfl) (by rw [List.getElem?_toArray]; rfl) (by rfl) (by as_aux_lemma => kernel_rfl) (by rfl) ?_; apply Exists.intro; refine ⟨fun w1 hS1 => ?_, ?_⟩; (focus ((obtain ⟨v0, v1, v2, v3, v4, v5⟩ := dgC (Kd9.out.grown hS1.grown hne0)); go_simp; with_reducible rfl))
  rw [show List.erase [0, 1, 2, 3, 4, 5, 6, 7] 0 = [1, 2, 3, 4, 5, 6, 7] from rfl]; simp only [Act.put, List.setIfInBounds_toArray, List.set_cons_zero, List.set_cons_succ]
  refine TxtT.pure 1 (by rfl) (by rw [List.getElem?_toArray]; rfl) (by rfl) (by as_aux_lemma => kernel_rfl) (by rfl) ?_; apply Exists.intro; refine ⟨fun w1 hS1 => ?_, ?_⟩; (focus ((obtain ⟨v0, v1, v2, v3, v4, v5⟩ := dgC (Kd9.out.grown hS1.grown hne0)); go_simp; with_reducible rfl))
  rw [show List.erase [1, 2, 3, 4, 5, 6, 7] 1 = [2, 3, 4, 5, 6, 7] from rfl]; simp only [Act.put, List.setIfInBounds_toArray, List.set_cons_zero, List.set_cons_succ]
  refine TxtT.pure 3 (by rfl) (by rw [List.getElem?_toArray]; rfl) (by rfl) (by as_aux_lemma => kernel_rfl) (by rfl) ?_; apply Exists.intro; refine ⟨fun w1 hS1 => ?_, ?_⟩; (focus ((obtain ⟨v0, v1, v2, v3, _, _, _, _⟩ := mvC (Kq9.out.grown hS1.grown hneq)); go_simp; with_reducible rfl))
  rw [show List.erase [2, 3, 4, 5, 6, 7] 3 = [2, 4, 5, 6, 7] from rfl]; simp only [Act.put, List.setIfInBounds_toArray, List.set_cons_zero, List.set_cons_succ]
  refine TxtT.two 2 4 (by as_aux_lemma => kernel_rfl) (by rw [List.getElem?_toArray]; rfl) (by rw [List.getElem?_toArray]; rfl) (by rfl) (by rfl) (by rfl) (by rfl) (fun v => ∃ M2 cm2, v = Value.slice M2 ms.length cm2) (fun v w' => ∃ M2 cm2, v = Value.slice M2 ms.length cm2 ∧ Blk w' g8 55 #[.int .i64 (n : Int), .slice A2 l.length c2, .int .i64 root, .int .i64 l0, .int .i64 l1, .slice M ms.length cm] ∧ OwnM w' W9.heap.size (.slice M2 ms.length cm2) ms) (fun v => ∃ gE, v = Value.slice (some ⟨gE, 0, none⟩) 1 1) (fun v w' => ∃ gE, v = Value.slice (some ⟨gE, 0, none⟩) 1 1 ∧ Blk w' g8 55 #[.int .i64 (n : Int), .slice A2 l.length c2, .int .i64 root, .int .i64 l0, .int .i64 l1, .slice M ms.length cm] ∧ RM w' (some ⟨gE, 0, none⟩) [m]) (fun w1 hS1 hJ1 => ?_) (fun w1 hS1 hJ1 => ?_) ?_ ?_
  · refine Eff.call (f := 43) (args := #[.slice M ms.length cm]) (by go_simp) ((cloneM_any M ms cm w1 (Hr9.out.grown hS1.grown (fun b o e => by have := HMb.out b o e; omega)) HMn.out (by omega)).mono ?_)
    rintro e w' ⟨M2, cm2, rfl, ho, hb⟩
    exact ⟨_, rfl, hS1.trans (Near.of_below (hb.mono hS1.size)), ⟨M2, cm2, rfl⟩, M2, cm2, rfl, hJ1.below hb hJ1.lt, ho.mono hS1.size⟩
  · exact Eff.value (w' := w1.alloc (.cells #[.int .i64 m.1, .int .i64 m.2.1, .int .i64 m.2.2.1, .int .i64 m.2.2.2] 89)) (v := .slice (some ⟨w1.heap.size, 0, none⟩) 1 1) (by go_simp) ⟨hS1.trans (Near.of_below ((newB _ _).mono hS1.size)), ⟨_, rfl⟩, w1.heap.size, rfl, hJ1.alloc _, new_rm1 w1 m⟩
  ·
    rintro _ ⟨M2, cm2, rfl⟩
    rw [show List.erase [2, 4, 5, 6, 7] 2 = [4, 5, 6, 7] from rfl]; simp only [Act.put, List.setIfInBounds_toArray, List.set_cons_zero, List.set_cons_succ]
    refine TxtT.weakJ (J2 := (fun w' => Blk w' g8 55 #[.int .i64 (n : Int), .slice A2 l.length c2, .int .i64 root, .int .i64 l0, .int .i64 l1, .slice M ms.length cm] ∧ OwnM w' W9.heap.size (.slice M2 ms.length cm2) ms)) (fun w1 h => by obtain ⟨M2', cm2', hq, h⟩ := h; injection hq with hq _ hq2; subst hq; subst hq2; exact h) ?_
    refine TxtT.one 4 (by as_aux_lemma => kernel_rfl) (by rw [List.getElem?_toArray]; rfl) (by rfl) (by rfl) (fun v => ∃ gE, v = Value.slice (some ⟨gE, 0, none⟩) 1 1) (fun v w' => ∃ gE, v = Value.slice (some ⟨gE, 0, none⟩) 1 1 ∧ Blk w' g8 55 #[.int .i64 (n : Int), .slice A2 l.length c2, .int .i64 root, .int .i64 l0, .int .i64 l1, .slice M ms.length cm] ∧ RM w' (some ⟨gE, 0, none⟩) [m] ∧ OwnM w' W9.heap.size (.slice M2 ms.length cm2) ms) (fun w1 hS1 hJ1 => ?_) ?_
    · exact Eff.value (w' := w1.alloc (.cells #[.int .i64 m.1, .int .i64 m.2.1, .int .i64 m.2.2.1, .int .i64 m.2.2.2] 89)) (v := .slice (some ⟨w1.heap.size, 0, none⟩) 1 1) (by go_simp) ⟨hS1.trans (Near.of_below ((newB _ _).mono hS1.size)), ⟨_, rfl⟩, w1.heap.size, rfl, hJ1.1.alloc _, new_rm1 w1 m, hJ1.2.below (newB _ _)⟩
    rintro _ ⟨gE, rfl⟩
    rw [show List.erase [4, 5, 6, 7] 4 = [5, 6, 7] from rfl]; simp only [Act.put, List.setIfInBounds_toArray, List.set_cons_zero, List.set_cons_succ]
    refine TxtT.weakJ (J2 := (fun w' => Blk w' g8 55 #[.int .i64 (n : Int), .slice A2 l.length c2, .int .i64 root, .int .i64 l0, .int .i64 l1, .slice M ms.length cm] ∧ OwnM w' W9.heap.size (.slice M2 ms.length cm2) ms ∧ RM w' (some ⟨gE, 0, none⟩) [m])) (fun w1 h => by obtain ⟨g', hq, h⟩ := h; injection hq with hq; injection hq with hq; injection hq with hq _ _; subst hq; exact ⟨h.1, h.2.2, h.2.1⟩) ?_
    refine TxtT.one 5 (by as_aux_lemma => kernel_rfl) (by rw [List.getElem?_toArray]; rfl) (by rfl) (by rfl) (fun v => ∃ M3 cm3, v = Value.slice M3 (ms ++ [m]).length cm3) (fun v w' => Blk w' g8 55 #[.int .i64 (n : Int), .slice A2 l.length c2, .int .i64 root, .int .i64 l0, .int .i64 l1, .slice M ms.length cm] ∧ OwnM w' W9.heap.size v (ms ++ [m])) (fun w1 hS1 hJ1 => Eff.of_list (ops := #[]) (by rfl) ?_) ?_
    · refine wpList_appMs (by rfl) _ _ (by rfl) w1 W9.heap.size _ ms (some ⟨gE, 0, none⟩) [m] 1 hJ1.2.1 hJ1.2.2 (fun e => by cases e) (by rfl) (by rfl) (by simp; omega) hS1.size ?_
      intro v' w' ho hb hg
      obtain ⟨M3, cm3, e', _, _, _⟩ := ho.form
      exact ⟨rfl, v', rfl, hS1.trans (Near.of_below hb), ⟨M3, cm3, e'⟩, hJ1.1.below hb hg9, ho⟩
    rintro _ ⟨M3, cm3, rfl⟩
    rw [show List.erase [5, 6, 7] 5 = [6, 7] from rfl]; simp only [Act.put, List.setIfInBounds_toArray, List.set_cons_zero, List.set_cons_succ]
    refine TxtT.pure 6 (by rfl) (by rw [List.getElem?_toArray]; rfl) (by rfl) (by as_aux_lemma => kernel_rfl) (by rfl) ?_; apply Exists.intro; refine ⟨fun w1 hS1 => ?_, ?_⟩; (focus (skip; go_simp; with_reducible rfl))
    rw [show List.erase [6, 7] 6 = [7] from rfl]; simp only [Act.put, List.setIfInBounds_toArray, List.set_cons_zero, List.set_cons_succ]
    refine TxtT.one 7 (by as_aux_lemma => kernel_rfl) (by rw [List.getElem?_toArray]; rfl) (by rfl) (by rfl) (fun v => v = undef) (fun _ w' => Blk w' g8 55 #[.int .i64 (n : Int), .slice A2 l.length c2, .int .i64 root, .int .i64 l0, .int .i64 l1, .slice M3 (ms ++ [m]).length cm3] ∧ OwnM w' W9.heap.size (.slice M3 (ms ++ [m]).length cm3) (ms ++ [m])) (fun w1 hS1 hJ1 => ?_) ?_
    · have f5 := hJ1.1.frozen 5
      have c5 : w1.cell? ⟨g8, 5, none⟩ = some (.slice M ms.length cm) := hJ1.1.cell 5
      exact Eff.skip (w' := w1.setCell ⟨g8, 5, none⟩ (.slice M3 (ms ++ [m]).length cm3)) (by go_simp) ⟨hS1.trans ⟨rfl, rfl, rfl, by simp, fun k _ hk => Below.heap_setCell w1 _ _ k hk⟩, rfl, hJ1.1.set_ 5 _, own_far hJ1.2 hg9 5 _⟩
    rintro _ rfl
    rw [show List.erase [7] 7 = [] from rfl]; simp only [Act.put]
    refine ⟨rfl, fun w1 hS1 hJ1 => ?_⟩
    have hgr := hS1.grown
    have hA2 : OwnP w1 w8.heap.size (.slice A2 l.length c2) l := World.ownsRow.kept Ho9.out hgr (.inr fun e => by have := (World.ownsRow.lt Ho9.out g8 e).1; omega)
    have hkt := Kt9.out.grown hgr hnet
    obtain ⟨q0, q1, q2, q3, q4, q5⟩ := dgC hkt
    obtain ⟨f0, f1, f2, f3, f4, f5⟩ := dgF hkt
    obtain ⟨j0, j1, j2, j3, j4, j5⟩ := dgC hJ1.1
    have HA2 := Lib.hid hA2; have Hkt := Lib.hid hkt; have HM3 := Lib.hid hJ1.2
    have Hbb := Lib.hid (Below.trans Hb9.out (Below.mono ⟨hS1.os, hS1.tape, hS1.output, hS1.size, fun k hk => hS1.block k (by omega) (by omega)⟩ hG9))
    clear hA2 hkt hJ1 hS1 hgr
    go_wp2_with fail
    have hk2 := set6 (g := w.heap.size + 1 + 1) Hkt.out (.int .i64 (n : Int)) (.slice A2 l.length c2) (.int .i64 root) (.int .i64 l0) (.int .i64 l1) (.slice M3 (ms.length + 1) cm3)
    obtain ⟨r0, r1, r2, r3, r4, r5⟩ := dgC hk2
    have hl1 : (ms ++ [m]).length = ms.length + 1 := by simp
    refine bodyPost_ret (v := .tuple #[.agg #[.int .i64 (n : Int), .slice A2 l.length c2, .int .i64 root, .int .i64 l0, .int .i64 l1, .slice M3 (ms.length + 1) cm3], .int .i64 0]) (by simp [results, Tryz.results46, go_sem, r0, r1, r2, r3, r4, r5]) rfl ?_
    exact ⟨A2, c2, M3, cm3, by rw [hl1], ownsRow_mono (own_set6 HA2.out (by omega) ..) (by omega), OwnM.mono (own_set6 HM3.out (by omega) ..) (by omega), below_set6 Hbb.out (by omega) ..⟩
  ·
    rintro _ ⟨gE, rfl⟩
    rw [show List.erase [2, 4, 5, 6, 7] 4 = [2, 5, 6, 7] from rfl]; simp only [Act.put, List.setIfInBounds_toArray, List.set_cons_zero, List.set_cons_succ]
    refine TxtT.weakJ (J2 := (fun w' => Blk w' g8 55 #[.int .i64 (n : Int), .slice A2 l.length c2, .int .i64 root, .int .i64 l0, .int .i64 l1, .slice M ms.length cm] ∧ RM w' (some ⟨gE, 0, none⟩) [m])) (fun w1 h => by obtain ⟨g', hq, h⟩ := h; injection hq with hq; injection hq with hq; injection hq with hq _ _; subst hq; exact h) ?_
    refine TxtT.one 2 (by as_aux_lemma => kernel_rfl) (by rw [List.getElem?_toArray]; rfl) (by rfl) (by rfl) (fun v => ∃ M2 cm2, v = Value.slice M2 ms.length cm2) (fun v w' => ∃ M2 cm2, v = Value.slice M2 ms.length cm2 ∧ Blk w' g8 55 #[.int .i64 (n : Int), .slice A2 l.length c2, .int .i64 root, .int .i64 l0, .int .i64 l1, .slice M ms.length cm] ∧ OwnM w' W9.heap.size (.slice M2 ms.length cm2) ms ∧ RM w' (some ⟨gE, 0, none⟩) [m]) (fun w1 hS1 hJ1 => ?_) ?_
    · refine Eff.call (f := 43) (args := #[.slice M ms.length cm]) (by go_simp) ((cloneM_any M ms cm w1 (Hr9.out.grown hS1.grown (fun b o e => by have := HMb.out b o e; omega)) HMn.out (by omega)).mono ?_)
      rintro e w' ⟨M2, cm2, rfl, ho, hb⟩
      exact ⟨_, rfl, hS1.trans (Near.of_below (hb.mono hS1.size)), ⟨M2, cm2, rfl⟩, M2, cm2, rfl, hJ1.1.below hb hJ1.1.lt, ho.mono hS1.size, hJ1.2.below hb⟩
    rintro _ ⟨M2, cm2, rfl⟩
    rw [show List.erase [2, 5, 6, 7] 2 = [5, 6, 7] from rfl]; simp only [Act.put, List.setIfInBounds_toArray, List.set_cons_zero, List.set_cons_succ]
    refine TxtT.weakJ (J2 := (fun w' => Blk w' g8 55 #[.int .i64 (n : Int), .slice A2 l.length c2, .int .i64 root, .int .i64 l0, .int .i64 l1, .slice M ms.length cm] ∧ OwnM w' W9.heap.size (.slice M2 ms.length cm2) ms ∧ RM w' (some ⟨gE, 0, none⟩) [m])) (fun w1 h => by obtain ⟨M2', cm2', hq, h⟩ := h; injection hq with hq _ hq2; subst hq; subst hq2; exact h) ?_
    refine TxtT.one 5 (by as_aux_lemma => kernel_rfl) (by rw [List.getElem?_toArray]; rfl) (by rfl) (by rfl) (fun v => ∃ M3 cm3, v = Value.slice M3 (ms ++ [m]).length cm3) (fun v w' => Blk w' g8 55 #[.int .i64 (n : Int), .slice A2 l.length c2, .int .i64 root, .int .i64 l0, .int .i64 l1, .slice M ms.length cm] ∧ OwnM w' W9.heap.size v (ms ++ [m])) (fun w1 hS1 hJ1 => Eff.of_list (ops := #[]) (by rfl) ?_) ?_
    · refine wpList_appMs (by rfl) _ _ (by rfl) w1 W9.heap.size _ ms (some ⟨gE, 0, none⟩) [m] 1 hJ1.2.1 hJ1.2.2 (fun e => by cases e) (by rfl) (by rfl) (by simp; omega) hS1.size ?_
      intro v' w' ho hb hg
      obtain ⟨M3, cm3, e', _, _, _⟩ := ho.form
      exact ⟨rfl, v', rfl, hS1.trans (Near.of_below hb), ⟨M3, cm3, e'⟩, hJ1.1.below hb hg9, ho⟩
    rintro _ ⟨M3, cm3, rfl⟩
    rw [show List.erase [5, 6, 7] 5 = [6, 7] from rfl]; simp only [Act.put, List.setIfInBounds_toArray, List.set_cons_zero, List.set_cons_succ]
    refine TxtT.pure 6 (by rfl) (by rw [List.getElem?_toArray]; rfl) (by rfl) (by as_aux_lemma => kernel_rfl) (by rfl) ?_; apply Exists.intro; refine ⟨fun w1 hS1 => ?_, ?_⟩; (focus (skip; go_simp; with_reducible rfl))
    rw [show List.erase [6, 7] 6 = [7] from rfl]; simp only [Act.put, List.setIfInBounds_toArray, List.set_cons_zero, List.set_cons_succ]
    refine TxtT.one 7 (by as_aux_lemma => kernel_rfl) (by rw [List.getElem?_toArray]; rfl) (by rfl) (by rfl) (fun v => v = undef) (fun _ w' => Blk w' g8 55 #[.int .i64 (n : Int), .slice A2 l.length c2, .int .i64 root, .int .i64 l0, .int .i64 l1, .slice M3 (ms ++ [m]).length cm3] ∧ OwnM w' W9.heap.size (.slice M3 (ms ++ [m]).length cm3) (ms ++ [m])) (fun w1 hS1 hJ1 => ?_) ?_
    · have f5 := hJ1.1.frozen 5
      have c5 : w1.cell? ⟨g8, 5, none⟩ = some (.slice M ms.length cm) := hJ1.1.cell 5
      exact Eff.skip (w' := w1.setCell ⟨g8, 5, none⟩ (.slice M3 (ms ++ [m]).length cm3)) (by go_simp) ⟨hS1.trans ⟨rfl, rfl, rfl, by simp, fun k _ hk => Below.heap_setCell w1 _ _ k hk⟩, rfl, hJ1.1.set_ 5 _, own_far hJ1.2 hg9 5 _⟩
    rintro _ rfl
    rw [show List.erase [7] 7 = [] from rfl]; simp only [Act.put]
    refine ⟨rfl, fun w1 hS1 hJ1 => ?_⟩
    have hgr := hS1.grown
    have hA2 : OwnP w1 w8.heap.size (.slice A2 l.length c2) l := World.ownsRow.kept Ho9.out hgr (.inr fun e => by have := (World.ownsRow.lt Ho9.out g8 e).1; omega)
    have hkt := Kt9.out.grown hgr hnet
    obtain ⟨q0, q1, q2, q3, q4, q5⟩ := dgC hkt
    obtain ⟨f0, f1, f2, f3, f4, f5⟩ := dgF hkt
    obtain ⟨j0, j1, j2, j3, j4, j5⟩ := dgC hJ1.1
    have HA2 := Lib.hid hA2; have Hkt := Lib.hid hkt; have HM3 := Lib.hid hJ1.2
    have Hbb := Lib.hid (Below.trans Hb9.out (Below.mono ⟨hS1.os, hS1.tape, hS1.output, hS1.size, fun k hk => hS1.block k (by omega) (by omega)⟩ hG9))
    clear hA2 hkt hJ1 hS1 hgr
    go_wp2_with fail
    have hk2 := set6 (g := w.heap.size + 1 + 1) Hkt.out (.int .i64 (n : Int)) (.slice A2 l.length c2) (.int .i64 root) (.int .i64 l0) (.int .i64 l1) (.slice M3 (ms.length + 1) cm3)
    obtain ⟨r0, r1, r2, r3, r4, r5⟩ := dgC hk2
    have hl1 : (ms ++ [m]).length = ms.length + 1 := by simp
    refine bodyPost_ret (v := .tuple #[.agg #[.int .i64 (n : Int), .slice A2 l.length c2, .int .i64 root, .int .i64 l0, .int .i64 l1, .slice M3 (ms.length + 1) cm3], .int .i64 0]) (by simp [results, Tryz.results46, go_sem, r0, r1, r2, r3, r4, r5]) rfl ?_
    exact ⟨A2, c2, M3, cm3, by rw [hl1], ownsRow_mono (own_set6 HA2.out (by omega) ..) (by omega), OwnM.mono (own_set6 HM3.out (by omega) ..) (by omega), below_set6 Hbb.out (by omega) ..⟩
end Go.Proofs.YthkknlnfdckdfaaGreatDoor
