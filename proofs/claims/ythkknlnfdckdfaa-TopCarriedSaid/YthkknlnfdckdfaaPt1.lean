/- Package protocol: the other player, what attacks, the status of the moves; slices.Index and Contains at moves. -/
import Derived.Test.YthkknlnfdckdfaaRwM
import Derived.Test.YthkknlnfdckdfaaRwB
import Derived.Test.YthkknlnfdckdfaaGnd
namespace Go.Proofs.Ythkknlnfdckdfaa
open Go.ChangeShapes Go.WideShapes Go.ChangeAt Go.RowKit

theorem RM.at_ {w : World} {A : Option Addr} {ms : List Mv} (h : RM w A ms) {k : Nat} (hk : k < ms.length) : ∃ b o, A = some ⟨b, o, none⟩ ∧ w.cell? ⟨b, o + k * 4, none⟩ = some (.int .i64 (mv ms k).1) ∧ w.cell? ⟨b, o + k * 4 + 1, none⟩ = some (.int .i64 (mv ms k).2.1) ∧ w.cell? ⟨b, o + k * 4 + 2, none⟩ = some (.int .i64 (mv ms k).2.2.1) ∧ w.cell? ⟨b, o + k * 4 + 3, none⟩ = some (.int .i64 (mv ms k).2.2.2) := h k hk
theorem boxedA (w : World) (t : TypeId) (cs : Array Value) : ∃ W0, w.alloc (.cells cs t) = W0 ∧ Blk W0 w.heap.size t cs ∧ Below w.heap.size w W0 ∧ W0.heap.size = w.heap.size + 1 :=
  ⟨_, rfl, Blk.new _ _ _, newB w _, by simp⟩
theorem boxedRR (w : World) (t u v : TypeId) (cs : Array Value) (x y : Value) (n : Nat) : ∃ W0, ((w.alloc (.cells cs t)).alloc (.cells (madeCells #[x] n) u)).alloc (.cells (madeCells #[y] n) v) = W0 ∧ Blk W0 w.heap.size t cs ∧ W0.rowIs (w.heap.size + 1) u n (fun _ => x) ∧ W0.rowIs (w.heap.size + 2) v n (fun _ => y) ∧ Below w.heap.size w W0 ∧ W0.heap.size = w.heap.size + 3 := by
  have h1 := World.rowIs_made (w.alloc (.cells cs t)) x n u
  have h2 := World.rowIs_made ((w.alloc (.cells cs t)).alloc (.cells (madeCells #[x] n) u)) y n v
  refine ⟨_, rfl, ((Blk.new w t _).alloc _).alloc _, ?_, ?_, (((Below.refl _ _).alloc (Nat.le_refl _) _).alloc (by simp) _).alloc (by simp; omega) _, by simp⟩
  · have := rowIs_new h1 (newB _ (.cells (madeCells #[y] n) v))
    simpa using this
  · simpa using h2
theorem other_any (x : Int) (w : World) (h1 : x = 1 ∨ x = 2) : Calls Try.prog 43 #[.int .i64 x] w (Ret (.int .i64 (3 - x)) w) := by
  go_enter Try.func43, Try.ntmps43
  rcases h1 with rfl | rfl
  · go_wp2_with fail
    go_ret
    exact ⟨rfl, rfl⟩
  · go_wp2_with fail
    go_ret
    exact ⟨rfl, rfl⟩
set_option maxRecDepth 100000 in
theorem attacks_any (A : Option Addr) (ms : List Mv) (c k : Nat) (w : World) (hr : RM w A ms) (hk : k < ms.length) (hm : OkM ms) :
    Calls Try.prog 72 #[.slice A ms.length c, .int .i64 (k : Int)] w (Ret (.bool ((mv ms k).2.1 == 2)) w) := by
  obtain ⟨b, o, rfl, e0, e1, e2, e3⟩ := hr k hk
  have hk0 : (0 : Int) ≤ (k : Int) := by omega
  have hk1 : (k : Int) < (ms.length : Int) := by omega
  rcases Nat.eq_zero_or_pos k with h0 | h0
  · subst h0
    have hh := hm.head
    rw [hh] at e1 ⊢
    clear hr hm
    go_enter Try.func72, Try.ntmps72
    go_wp2_with fail
    go_ret
    exact ⟨rfl, rfl⟩
  · obtain ⟨ht, htk⟩ := hm.tg h0 hk
    rcases hm.k2 h0 hk with hh | hh
    · rw [hh] at e1 ⊢
      rw [ht] at e3
      have d1 : decide ((0 : Int) ≤ (tg ms k : Int)) = true := decide_eq_true (by omega)
      have d2 : decide ((tg ms k : Int) < (k : Int)) = true := decide_eq_true (by omega)
      generalize tg ms k = t at *
      clear hr hm
      go_enter Try.func72, Try.ntmps72
      go_wp2_with fail
      go_ret
      exact ⟨rfl, rfl⟩
    · rw [hh] at e1 ⊢
      clear hr hm
      go_enter Try.func72, Try.ntmps72
      go_wp2_with fail
      go_ret
      exact ⟨rfl, rfl⟩
def eqM (x y : Mv) : Bool := x.1 == y.1 && (x.2.1 == y.2.1 && (x.2.2.1 == y.2.2.1 && x.2.2.2 == y.2.2.2))
theorem eqM_iff {x y : Mv} : eqM x y = true ↔ x = y := by
  obtain ⟨a, b, c, d⟩ := x
  obtain ⟨a', b', c', d'⟩ := y
  unfold eqM
  simp [Prod.mk.injEq]
theorem in_mv {ms : List Mv} {x : Mv} : ms.contains x = true ↔ ∃ j, j < ms.length ∧ mv ms j = x := by
  rw [List.contains_iff_mem, List.mem_iff_getElem]
  constructor
  · rintro ⟨j, hj, e⟩; exact ⟨j, hj, by rw [mv_at hj]; exact e⟩
  · rintro ⟨j, hj, e⟩; exact ⟨j, hj, by rw [← mv_at hj]; exact e⟩
/-- the call returns the place of x, or a negative number -/
def RetIxM (b : Bool) (w : World) : Ending → World → Prop := fun e w' => ∃ r : Int, e = .returned (.int .i64 r) ∧ decide (0 ≤ r) = b ∧ Below w.heap.size w w'
set_option maxRecDepth 100000 in
set_option maxHeartbeats 1000000 in
theorem indexM_any (A : Option Addr) (ms : List Mv) (c : Nat) (x : Mv) (w : World) (hr : RM w A ms) (hl : ms.length ≤ 1000000) :
    Calls Try.prog 74 #[.slice A ms.length c, .agg #[.int .i64 x.1, .int .i64 x.2.1, .int .i64 x.2.2.1, .int .i64 x.2.2.2]] w (RetIxM (ms.contains x) w) := by
  have heq := fun y w => run_eqlM x.1 x.2.1 x.2.2.1 x.2.2.2 (mv ms y).1 (mv ms y).2.1 (mv ms y).2.2.1 (mv ms y).2.2.2 w
  go_enter Try.func74, Try.ntmps74
  go_upto_region 1 with fail
  obtain ⟨W0, hW, k0, hb0, hs0⟩ := boxedA w 46 #[.int .i64 x.1, .int .i64 x.2.1, .int .i64 x.2.2.1, .int .i64 x.2.2.2]
  rw [hW]
  clear hW
  have c0 : W0.cell? ⟨w.heap.size, 0, none⟩ = some (.int .i64 x.1) := k0.cell 0
  have c1 : W0.cell? ⟨w.heap.size, 1, none⟩ = some (.int .i64 x.2.1) := k0.cell 1
  have c2 : W0.cell? ⟨w.heap.size, 2, none⟩ = some (.int .i64 x.2.2.1) := k0.cell 2
  have c3 : W0.cell? ⟨w.heap.size, 3, none⟩ = some (.int .i64 x.2.2.2) := k0.cell 3
  have hr0 := hr.below hb0
  clear hr k0
  go_wp2_with fail
  go_loopw [8] (fun t wr => ∃ k : Nat, k ≤ ms.length ∧ t = .int .i64 k ∧ (∀ j, j < k → mv ms j ≠ x) ∧ Below W0.heap.size W0 wr) (fun t _ => ms.length - (intOf t).toNat)
  case atStart => exact ⟨0, Nat.zero_le _, rfl, fun j hj => absurd hj (by omega), Below.refl _ _⟩
  case round =>
    obtain ⟨k, hk, rfl, hno, hbl⟩ := hrel
    have Hno := Lib.hid hno; clear hno
    by_cases hlt : k < ms.length
    case neg =>
      have hf : ms.contains x = false := by
        cases hh : ms.contains x
        · rfl
        · obtain ⟨j, hj, e⟩ := in_mv.1 hh
          exact absurd e (Hno.out j (by omega))
      have Hf := Lib.hid hf; clear hf
      go_wp2_with fail
      go_ret
      exact ⟨_, rfl, by rw [Hf.out]; rfl, endB hb0 hbl⟩
    case pos =>
    obtain ⟨b, o, rfl, e0, e1, e2, e3⟩ := (hr0.below hbl) k hlt
    have d0 := (hbl.cell (lt_of_cell c0)).trans c0
    have d1 := (hbl.cell (lt_of_cell c1)).trans c1
    have d2 := (hbl.cell (lt_of_cell c2)).trans c2
    have d3 := (hbl.cell (lt_of_cell c3)).trans c3
    have hlt' : (k : Int) < (ms.length : Int) := by omega
    have heqk := fun w => heq k w
    clear heq
    cases hb : eqM x (mv ms k)
    · have hne : mv ms k ≠ x := fun e => by rw [eqM_iff.2 e.symm] at hb; cases hb
      have Hne := Lib.hid hne
      clear hne
      unfold eqM at hb
      rw [hb] at heqk
      clear hb
      go_wp2_with fail
      go_quiet (fail)
      go_wp2_with fail
      go_roundw
      case rel => exact ⟨k + 1, by omega, by go_num, (fun j hj => by
        by_cases e : j = k
        · rw [e]; exact Hne.out
        · exact Hno.out j (by omega)), below_drewN hbl _⟩
      case measure => simp [intOf]; omega
    · have hin : ms.contains x = true := in_mv.2 ⟨k, hlt, (eqM_iff.1 hb).symm⟩
      have Hin := Lib.hid hin
      clear hin
      unfold eqM at hb
      rw [hb] at heqk
      clear hb
      go_wp2_with fail
      go_quiet (fail)
      go_wp2_with fail
      go_ret
      exact ⟨_, rfl, by rw [Hin.out]; exact decide_eq_true (by omega), endB hb0 (below_drewN hbl _)⟩
set_option maxRecDepth 100000 in
theorem containsM_any (A : Option Addr) (ms : List Mv) (c : Nat) (x : Mv) (w : World) (hr : RM w A ms) (hl : ms.length ≤ 1000000) :
    Calls Try.prog 63 #[.slice A ms.length c, .agg #[.int .i64 x.1, .int .i64 x.2.1, .int .i64 x.2.2.1, .int .i64 x.2.2.2]] w (RetB (.bool (ms.contains x)) w) := by
  go_enter Try.func63, Try.ntmps63
  go_upto_region 1 with fail
  obtain ⟨W0, hW, k0, hb0, hs0⟩ := boxedA w 46 #[.int .i64 x.1, .int .i64 x.2.1, .int .i64 x.2.2.1, .int .i64 x.2.2.2]
  rw [hW]
  clear hW
  have c0 : W0.cell? ⟨w.heap.size, 0, none⟩ = some (.int .i64 x.1) := k0.cell 0
  have c1 : W0.cell? ⟨w.heap.size, 1, none⟩ = some (.int .i64 x.2.1) := k0.cell 1
  have c2 : W0.cell? ⟨w.heap.size, 2, none⟩ = some (.int .i64 x.2.2.1) := k0.cell 2
  have c3 : W0.cell? ⟨w.heap.size, 3, none⟩ = some (.int .i64 x.2.2.2) := k0.cell 3
  have hr0 := hr.below hb0
  clear hr k0
  go_wp2_with fail
  refine (indexM_any A ms c x W0 hr0 hl).mono ?_
  rintro e w1 ⟨r, rfl, hd, hb1⟩
  have Hd := Lib.hid hd; clear hd
  go_wp2_with fail
  go_ret
  exact ⟨rb Hd.out, endB hb0 hb1⟩
/-- the call returns the status of the moves, in a new slice -/
def RetSts (ms : List Mv) (w : World) : Ending → World → Prop := fun e w' => ∃ g, e = .returned (.slice (some ⟨g, 0, none⟩) ms.length ms.length) ∧ w.heap.size ≤ g ∧ Row w' g ms.length (stF ms) ∧ Below w.heap.size w w'
set_option maxRecDepth 100000 in
set_option maxHeartbeats 4000000 in
theorem status_any (N : Int) (A : Option Addr) (k c : Nat) (root l0 l1 : Int) (M : Option Addr) (ms : List Mv) (cm : Nat) (w : World) (hr : RM w M ms) (hm : OkM ms) (hl : ms.length ≤ 1000) :
    Calls Try.prog 59 #[.agg #[.int .i64 N, .slice A k c, .int .i64 root, .int .i64 l0, .int .i64 l1, .slice M ms.length cm]] w (RetSts ms w) := by
  have hmk1 := run_make_row' (P := Try.prog) 22 3 (.int .i64 0) 8 Try.underlying22 info_int rfl .i64 .i64 ms.length (by omega) (by omega)
  have hmk2 := run_make_row' (P := Try.prog) 100 4 (.bool false) 1 Try.underlying100 info_bool rfl .i64 .i64 ms.length (by omega) (by omega)
  have HM := Lib.hid hm
  have hpos := hm.pos
  clear hm
  go_enter Try.func59, Try.ntmps59
  go_upto_region 3 with fail
  obtain ⟨W0, hW, k0, hrow, hrb, hb0, hs0⟩ := boxedRR w 34 3 4 #[.int .i64 N, .slice A k c, .int .i64 root, .int .i64 l0, .int .i64 l1, .slice M ms.length cm] (.int .i64 0) (.bool false) ms.length
  rw [hW]
  clear hW hmk1 hmk2
  have c5 : W0.cell? ⟨w.heap.size, 5, none⟩ = some (.slice M ms.length cm) := k0.cell 5
  have hr0 := hr.below hb0
  have hrow0 : Row W0 (w.heap.size + 1) ms.length (fun _ => 0) := hrow
  have hrb0 : RowB W0 (w.heap.size + 2) ms.length (fun _ => false) := hrb
  clear k0 hrow hrb
  go_wp2_with fail
  -- no move is taken back
  go_loopw [20] (fun t wr => ∃ j : Nat, j ≤ ms.length ∧ t = .int .i64 j ∧ Below W0.heap.size W0 wr) (fun t _ => ms.length - (intOf t).toNat)
  case atStart => exact ⟨0, Nat.zero_le _, rfl, Below.refl _ _⟩
  case round =>
    obtain ⟨j, hj, rfl, hbl⟩ := hrel
    by_cases hlt : j < ms.length
    case pos =>
      obtain ⟨b, o, rfl, e0, e1, e2, e3⟩ := (hr0.below hbl) j hlt
      have hlt' : (j : Int) < (ms.length : Int) := by omega
      have h3 : ((mv ms j).2.1 == 3) = false := beq_eq_false_iff_ne.2 (HM.out.k3 hlt)
      go_wp2_with fail
      go_roundw
      case rel => exact ⟨j + 1, by omega, by go_num, hbl.alloc (by have := hbl.size; omega) _⟩
      case measure => simp [intOf]; omega
    case neg =>
    obtain rfl : j = ms.length := by omega
    have HrA : ∀ wx, Below (w.heap.size + 1) W0 wx → RM wx M ms := fun wx h => hr.below (hb0.trans (h.mono (by omega)))
    have HbA : ∀ wx, Below (w.heap.size + 1) W0 wx → Below w.heap.size w wx := fun wx h => hb0.trans (h.mono (by omega))
    have Hs2 := Lib.hid (show w.heap.size ≤ w.heap.size + 1 by omega)
    have hG0 : w.heap.size < w.heap.size + 1 := by omega
    have hG1 : w.heap.size + 1 < w.heap.size + 2 := by omega
    have hrow1 : Row wr (w.heap.size + 1) ms.length (fun _ => 0) := rowIs_below hrow0 hbl (by omega)
    have hrb1 : RowB wr (w.heap.size + 2) ms.length (fun _ => false) := rowIs_below hrb0 hbl (by omega)
    have hbl1 : Below (w.heap.size + 1) W0 wr := hbl.mono (by omega)
    have HrA' := Lib.hid HrA; have HbA' := Lib.hid HbA
    clear HrA HbA hr hb0 hrow0 hrb0 hbl hs0 hr0
    generalize hgR : w.heap.size + 2 = gR at *
    generalize hgS : w.heap.size + 1 = gS at *
    generalize hG : w.heap.size = G at *
    have HG := Lib.hid hG
    clear hgR hgS hG
    have c5w := (hbl1.cell (p := ⟨G, 5, none⟩) hG0).trans c5
    obtain ⟨wo, hwo⟩ : ∃ wo, wo = wr := ⟨_, rfl⟩
    subst hwo
    go_wp2_with fail
    go_loopw [47] (fun t wr => ∃ j : Nat, j ≤ ms.length ∧ t = .int .i64 j ∧ Row wr gS ms.length (fun i => if i < j then (if (mv ms i).2.1 = 4 then 0 else 1) else 0) ∧ RowB wr gR ms.length (fun _ => false) ∧ Below gS W0 wr) (fun t _ => ms.length - (intOf t).toNat)
    case atStart => exact ⟨0, Nat.zero_le _, rfl, hrow1.congr fun i _ => by simp, hrb1, hbl1⟩
    case round =>
      clear hrow1 hrb1 hbl1 c5w
      obtain ⟨j, hj, rfl, hrow, hrb, hbl⟩ := hrel
      have c5w := (hbl.cell (p := ⟨G, 5, none⟩) hG0).trans c5
      by_cases hlt : j < ms.length
      case pos =>
        have hlt' : (j : Int) < (ms.length : Int) := by omega
        have hj0' : (0 : Int) ≤ (j : Int) := by omega
        have fz := hrow.frozen j
        have cj := hrow.cell hlt
        have hset := hrow.set j 1
        have hbs := hbl.setCell (p := ⟨gS, j, none⟩) (Nat.le_refl _) (.int .i64 1)
        have hrbs : RowB (wr.setCell ⟨gS, j, none⟩ (.int .i64 1)) gR ms.length (fun _ => false) := World.rowIs.setOther hrb (by show gR ≠ gS; omega) _
        have Hset := Lib.hid hset; have Hbs := Lib.hid hbs; have Hrbs := Lib.hid hrbs
        clear hset hbs hrbs
        rcases Nat.eq_zero_or_pos j with h0 | h0
        · subst h0
          have H4 := Lib.hid (show (mv ms 0).2.1 ≠ 4 by rw [HM.out.head]; decide)
          clear hrow hrb
          go_wp2_with fail
          go_roundw
          case rel => exact ⟨1, by omega, by go_num, Hset.out.congr fun i _ => (by
            unfold upd
            by_cases e : i = 0
            · subst e; rw [if_pos rfl, if_pos (by omega), if_neg H4.out]
            · simp only [if_neg e]
              rw [if_neg (by omega), if_neg (by omega)]), Hrbs.out, Hbs.out⟩
          case measure => simp [intOf]; omega
        · have hj0 : ((j : Int) == 0) = false := beq_eq_false_iff_ne.2 (by omega)
          obtain ⟨ht, htk⟩ := HM.out.tg h0 hlt
          have hkt := HM.out.tk h0 hlt
          have catt := attacks_any M ms cm j wr (HrA'.out wr hbl) hlt HM.out
          obtain ⟨b, o, rfl, e0, e1, e2, e3⟩ := (HrA'.out wr hbl) j hlt
          rw [ht] at e3
          have ctg := hrow.cell (i := tg ms j) (by omega)
          rw [if_pos htk, if_neg hkt] at ctg
          have cr := hrb.cell hlt
          have ht0 : (0 : Int) ≤ (tg ms j : Int) := by omega
          have ht1 : (tg ms j : Int) < (ms.length : Int) := by omega
          have Hrow := Lib.hid hrow; have Hrb := Lib.hid hrb
          clear hrow hrb
          rcases HM.out.k2 h0 hlt with hh | hh
          · have H4 := Lib.hid (show (mv ms j).2.1 ≠ 4 by rw [hh]; decide)
            rw [hh] at e1 catt
            generalize tg ms j = t at *
            clear hh ht hkt
            go_wp2_with fail
            refine catt.mono ?_
            rintro e w3 ⟨rfl, rfl⟩
            go_wp2_with fail
            go_roundw
            case rel => exact ⟨j + 1, by omega, by go_num, Hset.out.congr fun i _ => (by
              unfold upd
              by_cases e : i = j
              · subst e; rw [if_pos rfl, if_pos (by omega), if_neg H4.out]
              · simp only [if_neg e]
                by_cases e2 : i < j
                · rw [if_pos e2, if_pos (show i < j + 1 by omega)]
                · rw [if_neg e2, if_neg (show ¬ i < j + 1 by omega)]), Hrbs.out, Hbs.out⟩
            case measure => simp [intOf]; omega
          · have H4 := Lib.hid hh
            rw [hh] at e1 catt
            generalize tg ms j = t at *
            clear hh ht hkt
            go_wp2_with fail
            refine catt.mono ?_
            rintro e w3 ⟨rfl, rfl⟩
            go_wp2_with fail
            go_roundw
            case rel => exact ⟨j + 1, by omega, by go_num, Hrow.out.congr fun i _ => (by
              by_cases e : i = j
              · subst e; rw [if_neg (Nat.lt_irrefl _), if_pos (Nat.lt_succ_self _), if_pos H4.out]
              · by_cases e2 : i < j
                · rw [if_pos e2, if_pos (show i < j + 1 by omega)]
                · rw [if_neg e2, if_neg (show ¬ i < j + 1 by omega)]), Hrb.out, hbl⟩
            case measure => simp [intOf]; omega
      case neg =>
      obtain rfl : j = ms.length := by omega
      have hrow1 : Row wr gS ms.length (stK ms (ms.length - 1)) := hrow.congr fun i hi => by rw [if_pos hi, stK_top (by omega)]
      have Hrb := Lib.hid hrb
      clear hrow hrb
      obtain ⟨wo, hwo⟩ : ∃ wo, wo = wr := ⟨_, rfl⟩
      subst hwo
      have hn1 : IntKind.i64.wrap ((ms.length : Int) - 1) = ((ms.length - 1 : Nat) : Int) := by rw [IntKind.wrap_i64]; omega
      go_wp2_with fail
      go_loopw [8] (fun t wr => ∃ j : Nat, j < ms.length ∧ t = .int .i64 j ∧ Row wr gS ms.length (stK ms j) ∧ Below gS W0 wr) (fun t _ => (intOf t).toNat)
      case atStart => exact ⟨ms.length - 1, by omega, by first | rfl | go_num, hrow1, hbl⟩
      case round =>
        clear hrow1 hbl c5w
        obtain ⟨j, hj, rfl, hrow, hbl⟩ := hrel
        have c5w := (hbl.cell (p := ⟨G, 5, none⟩) hG0).trans c5
        rcases Nat.eq_zero_or_pos j with h0 | h0
        · subst h0
          have hres : Row wr gS ms.length (stF ms) := hrow.congr fun i hi => stK_low (Nat.zero_le _) hi
          have Hres := Lib.hid hres; clear hrow hres
          go_wp2_with fail
          go_ret
          have hle := Hs2.out
          have hbf := HbA'.out wr hbl
          rw [← HG.out] at hle hbf
          exact ⟨gS, rfl, hle, Hres.out, hbf⟩
        · have hj0 : (0 : Int) < (j : Int) := by omega
          have hj1 : (j : Int) < (ms.length : Int) := by omega
          have hj2 : (0 : Int) ≤ (j : Int) := by omega
          have hw1 : IntKind.i64.wrap ((j : Int) - 1) = ((j - 1 : Nat) : Int) := by rw [IntKind.wrap_i64]; omega
          obtain ⟨ht, htk⟩ := HM.out.tg h0 hj
          have cj := hrow.cell hj
          rw [stK_low (Nat.le_refl _) hj] at cj
          have hstep := fun i => stK_step (i := i) HM.out h0 hj
          have ct := hrow.cell (i := tg ms j) (by omega)
          have ft := hrow.frozen (tg ms j)
          have hset := hrow.set (tg ms j) 2
          have hbs := hbl.setCell (p := ⟨gS, tg ms j, none⟩) (Nat.le_refl _) (.int .i64 2)
          have Hset := Lib.hid hset; have Hbs := Lib.hid hbs; have Hstep := Lib.hid hstep
          clear hset hbs hstep
          obtain ⟨b, o, rfl, e0, e1, e2, e3⟩ := (HrA'.out wr hbl) j hj
          rw [ht] at e3
          have ht0 : (0 : Int) ≤ (tg ms j : Int) := by omega
          have ht1 : (tg ms j : Int) < (ms.length : Int) := by omega
          have Hrow := Lib.hid hrow
          clear hrow
          by_cases hst : stF ms j = 1
          · have HT := Lib.hid hst
            rw [hst] at cj
            clear hst ht
            go_wp2_with fail
            go_roundw
            case rel => exact ⟨j - 1, by omega, by first | rfl | go_num, Hset.out.congr fun i _ => (by
              rw [Hstep.out i]
              unfold upd
              by_cases e : i = tg ms j
              · rw [if_pos e, if_pos ⟨HT.out, e⟩]
              · rw [if_neg e, if_neg (fun h => e h.2)]), Hbs.out⟩
            case measure => simp [intOf]; omega
          · have hsb : (stF ms j == 1) = false := beq_eq_false_iff_ne.2 hst
            have HT := Lib.hid hst
            clear hst ht
            go_wp2_with fail
            go_roundw
            case rel => exact ⟨j - 1, by omega, by first | rfl | go_num, Hrow.out.congr fun i _ => (by
              rw [Hstep.out i, if_neg (fun h => HT.out h.1)]), hbl⟩
            case measure => simp [intOf]; omega
end Go.Proofs.Ythkknlnfdckdfaa
