/- law15: the walk of ExtensionEven. -/
import Derived.Test.YtcpombepajapjaaDoorPlf
import Derived.Test.YtcpombepajapjaaDoorHas15
namespace Go.Proofs.YtcpombepajapjaaDoor
open Go.ChangeShapes Go.WideShapes Go.ChangeAt Go.RowKit

/-- the state of the loops that build the graph -/
structure EvSt (p G N f t : Nat) (l : List (Int × Int)) (w wr : World) : Prop where
  src : SrcOk wr p
  blw : Below w.heap.size w wr
  bef : before f t l
  srt : l.Pairwise ltP
  rng : ∀ q ∈ l, 0 ≤ q.1 ∧ q.1 < N ∧ 0 ≤ q.2 ∧ q.2 < N
  len : l.length ≤ f * 40 + t
  par : evenG l
  hp : w.heap.size ≤ p
  hpG : p < G
  hG : G < wr.heap.size
theorem EvSt.read {p G N f t : Nat} {l : List (Int × Int)} {w wr w' : World} (h : EvSt p G N f t l w wr) (hs : SrcOk w' p) (hg : wr.grownBy w' (some p)) : EvSt p G N f t l w w' :=
  { h with src := hs, blw := h.blw.trans (below_of_grownBy hg h.hp h.blw.size), hG := Nat.lt_of_lt_of_le h.hG hg.size }
theorem EvSt.add {p G N f t : Nat} {l : List (Int × Int)} {w wr w' : World} {v : Value} {e : TypeId} {size n : Nat} {xs : List Value} (h : EvSt p G N f t l w wr) (ho : wr.ownsRow (G + 1) e size v n xs) (hg : wr.grownBy w' v.ownBlock) (hbl : Below (G + 1) wr w')
    (hf : f < N) (ht : t < N) (hpar : (f + t) % 2 = 1) (u : Value) : EvSt p G N f (t + 1) (l ++ [((f : Int), (t : Int))]) w (w'.setCell ⟨G, 1, none⟩ u) :=
  { h with
    src := (h.src.append ho hg (by have := h.hpG; omega)).other (grownBy_setCell w' G 1 u) (fun k hk => by injection hk with hk; have := h.hpG; omega)
    blw := (h.blw.trans (hbl.mono (by have := h.hp; have := h.hpG; omega))).setCell (p := ⟨G, 1, none⟩) (by have := h.hp; have := h.hpG; show w.heap.size ≤ G; omega) u
    bef := before_snoc h.bef
    srt := List.pairwise_append.2 ⟨h.srt, List.pairwise_singleton .., fun a ha b hb => by rw [List.mem_singleton] at hb; subst hb; exact h.bef a ha⟩
    rng := fun q hq => by
      rcases List.mem_append.1 hq with hq | hq
      · exact h.rng q hq
      · rw [List.mem_singleton] at hq; subst hq; simp; omega
    len := by have := h.len; simp; omega
    par := fun q hq => by
      rcases List.mem_append.1 hq with hq | hq
      · exact h.par q hq
      · rw [List.mem_singleton] at hq; subst hq; simp only; omega
    hG := by have := hbl.size; have := h.hG; simp [World.setCell]; omega }
theorem EvSt.next {p G N f t : Nat} {l : List (Int × Int)} {w wr : World} (h : EvSt p G N f t l w wr) : EvSt p G N f (t + 1) l w wr :=
  { h with bef := before_next h.bef, len := by have := h.len; omega }
theorem EvSt.row {p G N f : Nat} {l : List (Int × Int)} {w wr : World} (h : EvSt p G N f N l w wr) (hN : N ≤ 40) : EvSt p G N (f + 1) 0 l w wr :=
  { h with bef := before_row h.bef h.rng, len := by have := h.len; omega }
theorem EvSt.vld {p G N f : Nat} {l : List (Int × Int)} {w wr : World} (h : EvSt p G N f 0 l w wr) (hN : N ≤ 40) (hf : f ≤ N) : Vld N l :=
  ⟨⟨hN, by have := h.len; omega, h.rng⟩, h.srt⟩

set_option maxRecDepth 100000 in
set_option maxHeartbeats 8000000 in
theorem eve_law_any (A : Option Addr) (arg : List Int) (c : Nat) (w : World)
    (hlc : arg.length ≤ c) (hc : c ≤ 9223372036854775807) (hr : RI w A arg) (hx : ∀ x ∈ arg, -9223372036854775808 ≤ x ∧ x ≤ 9223372036854775807) (hT : Tab w) :
    Calls Tryd.prog 3 #[.slice A arg.length c] w (RetB (.bool true) w) := by
  go_enter Tryd.func3, Tryd.ntmps3
  go_wp2_with fail
  refine (new_any A arg c w hlc hc hr hx).mono ?_
  rintro e w1 ⟨p, rfl, hp, hs1, hb1⟩
  have hp1 := hs1.lt
  clear hr hx
  go_wp2_with fail
  refine (n_any p 8 w1 hs1 (by omega) (by omega)).mono ?_
  rintro e w2 ⟨n', rfl, hn1, hn2, hs2, hg2⟩
  obtain ⟨N, hN⟩ : ∃ N : Nat, 1 + n' = N := ⟨(1 + n').toNat, by omega⟩
  have hN1 : 1 ≤ N := by omega
  have hN8 : N ≤ 8 := by omega
  have hb2 : Below w.heap.size w w2 := hb1.trans (below_of_grownBy hg2 hp hb1.size)
  have hp2 := hs2.lt
  clear hs1 hb1 hg2 hn1 hn2
  go_wp2_with fail
  obtain ⟨W0, hW, k0, hb0, hlt0⟩ : ∃ W0, w2.alloc (.cells #[.int .i64 (N : Int), .slice none 0 0] 28) = W0 ∧ Blk W0 w2.heap.size 28 #[.int .i64 (N : Int), .slice none 0 0] ∧ Below w2.heap.size w2 W0 ∧ w2.heap.size < W0.heap.size :=
    ⟨_, rfl, Blk.new _ _ _, (Below.refl _ _).alloc (Nat.le_refl _) _, by simp⟩
  rw [hW]
  clear hW
  have hst0 : EvSt p w2.heap.size N 0 0 [] w W0 := { src := hs2.kept hb0, blw := endB hb2 hb0, bef := (fun q hq => by cases hq), srt := List.Pairwise.nil, rng := (fun q hq => by cases hq), len := by simp, par := (fun q hq => by cases hq), hp := hp, hpG := hp2, hG := hlt0 }
  have hgg0 : GenG w2.heap.size (w2.heap.size + 1) N [] (.slice none 0 0) W0 := ⟨k0, OwnP.nil _ _⟩
  clear k0 hb0 hb2 hs2 hp2 hlt0
  generalize w2.heap.size = G at *
  go_wp2_with fail
  go_loopw [6] (fun i wr => ∃ (f : Nat) (l : List (Int × Int)) (v : Value), f ≤ N ∧ i = .int .i64 f ∧ GenG G (G + 1) N l v wr ∧ EvSt p G N f 0 l w wr) (fun i _ => N - (intOf i).toNat)
  case atStart => exact ⟨0, [], _, by omega, rfl, hgg0, hst0⟩
  case round =>
    obtain ⟨f, l, v, hf, rfl, hgg, hst⟩ := hrel
    clear hgg0 hst0
    by_cases hfN : f < N
    case neg =>
      obtain rfl : f = N := by omega
      obtain ⟨a0, a1, a2, a3⟩ := hgg.blk.two
      obtain ⟨A2, c2, rfl, hrp, hAn⟩ := hgg.own.form2
      have hv := hst.vld (by omega) (Nat.le_refl _)
      have hev := hst.par
      have hBr := hst.blw
      have hTr := hT.below hBr
      have hlen := hv.1.2.1
      have hfew : ¬ 200 < (compL f l).length := by have := even_few hv.1 hev hN8; omega
      have hek := even_kept hv.1 hev
      have hpos := pref_some hv.1
      have hPl : (keptL prefP (compL f l)).length ≤ 200 := Nat.le_trans kept_len (by omega)
      have hPx : ∀ x ∈ keptL prefP (compL f l), x.length ≤ 1000 := fun x hx => by rw [comp_len (mem_kept.1 hx).1]; omega
      have hP1 := fun W h1 h2 => xPreferred_any A2 f l c2 W h1 hlen h2
      have hS1 := fun W h1 h2 => xStable_any A2 f l c2 W h1 hlen h2
      simp only [bestR_ok hv.valE, if_neg hfew, ← hek] at hP1 hS1
      have hP1' : ∀ W, RP W A2 l → Tab W → Calls Tryd.prog 11 #[.agg #[.int .i64 f, .slice A2 l.length c2]] W (RetLC (keptL prefP (compL f l), 0) W) := hP1
      have hS1' : ∀ W, RP W A2 l → Tab W → Calls Tryd.prog 12 #[.agg #[.int .i64 f, .slice A2 l.length c2]] W (RetLC (keptL prefP (compL f l), 0) W) := hS1
      clear hP1 hS1 hek hfew hst hgg
      generalize keptL prefP (compL f l) = PL at *
      have HP1 := Lib.hid hP1'; have HS1 := Lib.hid hS1'; have HPx := Lib.hid hPx
      clear hP1' hS1' hPx
      have Hc := Lib.hid (HP1.out wr hrp hTr)
      go_wp2_with fail
      refine Hc.out.mono ?_
      rintro e w3 ⟨AP, cp, rfl, hrs, _, _, hb⟩
      have hB1 := endB hBr hb
      have HP := Lib.hid (show RS w3 AP PL from hrs.rs)
      have f0 := (hb.cell (lt_of_cell a0)).trans a0
      have f1 := (hb.cell (lt_of_cell a1)).trans a1
      have hrp1 := hrp.below hb
      have hT1 := hTr.below hb
      clear Hc HP1 hrs hb a0 a1 a2 a3 hrp hTr
      have Hc := Lib.hid (HS1.out w3 hrp1 hT1)
      go_wp2_with fail
      refine Hc.out.mono ?_
      rintro e w4 ⟨AS, cs, rfl, hrs, _, _, hb⟩
      have hB2 := endB hB1 hb
      have HS := Lib.hid (show RS w4 AS PL from hrs.rs)
      have HP2 := Lib.hid (HP.out.below hb)
      have hT2 := hT1.below hb
      have hM0d : decide ((0 : Int) < (PL.length : Int)) = true := decide_eq_true (by omega)
      clear Hc HS1 hrs hb f0 f1 hrp1 hT1 HP
      have hq := lists_any AP AS PL PL cp cs w4 (by omega) (by omega) (fun x hx => by have := HPx.out x hx; omega) (fun x hx => by have := HPx.out x hx; omega) HP2.out HS.out
      rw [(eqLs_iff _ _).2 rfl] at hq
      have Hq := Lib.hid hq
      clear hq
      go_wp2_with fail
      refine Hq.out.mono ?_
      rintro e w6 ⟨rfl, hb6⟩
      go_wp2_with fail
      refine (awake15_any w6 (hT2.below hb6)).mono ?_
      rintro e w7 ⟨rfl, hb7⟩
      go_wp2_with fail
      go_ret
      exact ⟨rfl, endB hB2 (endB hb6 hb7)⟩
    case pos =>
    have hfN' : (f : Int) < (N : Int) := by omega
    obtain ⟨wo, hwo⟩ : ∃ wo, wo = wr := ⟨_, rfl⟩
    subst hwo
    go_wp2_with fail
    go_loopw [7] (fun i wr => ∃ (t : Nat) (l : List (Int × Int)) (v : Value), t ≤ N ∧ i = .int .i64 t ∧ GenG G (G + 1) N l v wr ∧ EvSt p G N f t l w wr) (fun i _ => N - (intOf i).toNat)
    case atStart => exact ⟨0, l, v, by omega, rfl, hgg, hst⟩
    case round =>
      clear hgg hst
      obtain ⟨t, l, v, ht, rfl, hgg, hst⟩ := hrel
      by_cases htN : t < N
      case neg =>
        obtain rfl : t = N := by omega
        go_wp2
        go_roundw
        case rel => exact ⟨f + 1, l, v, by omega, by go_num, hgg, hst.row (by omega)⟩
        case measure => simp [intOf]; omega
      case pos =>
      have htN' : (t : Int) < (N : Int) := by omega
      have hsrc := hst.src
      by_cases hpar : (f + t) % 2 = 1
      case neg =>
        have hpb : (bits .and .i64 ((f : Int) + (t : Int)) 1 == 1) = false := by rw [i64_and1, beq_eq_false_iff_ne]; omega
        have Hpar := Lib.hid hpar
        clear hpar
        go_wp2_with fail
        go_roundw
        case rel => exact ⟨t + 1, l, v, by omega, by go_num, hgg, hst.next⟩
        case measure => simp [intOf]; omega
      case pos =>
      have hpb : (bits .and .i64 ((f : Int) + (t : Int)) 1 == 1) = true := by rw [i64_and1, beq_iff_eq]; omega
      have Hpar := Lib.hid hpar
      clear hpar
      go_wp2_with fail
      refine (n_any p 4 wr hsrc (by omega) (by omega)).mono ?_
      rintro e w3 ⟨k, rfl, hk1, hk2, hs3, hg3⟩
      have hgg3 : GenG G (G + 1) N l v w3 := ⟨hgg.blk.grown hg3 (fun e => by injection e with e; have := hst.hpG; omega), ownsRow_far hgg.own hg3 (by have := hst.hpG; omega)⟩
      have hst3 := hst.read hs3 hg3
      clear hgg hst hg3 hs3 hsrc
      obtain ⟨a0, a1, a2, a3⟩ := hgg3.blk.two
      have hlen3 : l.length ≤ 1000000 := by have := hst3.len; omega
      have hbs := hst3.hG
      by_cases hk0 : k = 0
      · have hkb : (k == 0) = true := by simp [hk0]
        have Hk0 := Lib.hid hk0; clear hk0
        go_wp2_with (at_builtin; (refine wpList_appP (by rfl) _ _ (by rfl) w3 (G + 1) _ l (f : Int) (t : Int) hgg3.own (by rfl) (by rfl) hlen3 hbs ?_; intro v' w4 hown4 hb4 hg4; (obtain ⟨A', c', rfl, _, _⟩ := OwnP.form hown4); rw [List.length_append] at hown4; simp only [List.length_singleton] at hown4; have kg4 := hgg3.blk.append hgg3.own hg4 (Nat.lt_succ_self G); (obtain ⟨b0, b1, b2, b3⟩ := kg4.two)))
        go_roundw
        case rel => exact ⟨t + 1, l ++ [((f : Int), (t : Int))], .slice A' _ c', by omega, by go_num, ⟨kg4.set_ 1 _, ownsRow_setCell_below hown4 (a := ⟨G, 1, none⟩) (Nat.lt_succ_self G) _⟩, hst3.add hgg3.own hg4 hb4 hfN htN Hpar.out _⟩
        case measure => simp [intOf]; omega
      · have hkb : (k == 0) = false := by simp [hk0]
        have Hk0 := Lib.hid hk0; clear hk0
        go_wp2_with fail
        go_roundw
        case rel => exact ⟨t + 1, l, v, by omega, by go_num, hgg3, hst3.next⟩
        case measure => simp [intOf]; omega
end Go.Proofs.YtcpombepajapjaaDoor
