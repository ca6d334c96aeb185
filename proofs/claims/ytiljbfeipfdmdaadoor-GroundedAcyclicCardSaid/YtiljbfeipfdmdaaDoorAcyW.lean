/- The walk of the statement GroundedAcyclic. -/
import Derived.Test.YtiljbfeipfdmdaaDoorPlain12c
import Derived.Test.YtiljbfeipfdmdaaDoorLc
import Derived.Test.YtiljbfeipfdmdaaDoorLb
import Derived.Test.YtiljbfeipfdmdaaDoorGst
namespace Go.Proofs.YtiljbfeipfdmdaaDoor
open Go.ChangeShapes Go.WideShapes Go.ChangeAt Go.RowKit

/-- the state of the loops that make a graph without cycles -/
structure AcySt (p G N f t : Nat) (l : List (Int × Int)) (w wr : World) : Prop where
  src : SrcOk wr p
  hb : Below w.heap.size w wr
  bef : before f t l
  srt : l.Pairwise ltP
  rng : ∀ q ∈ l, 0 ≤ q.1 ∧ q.1 < N ∧ 0 ≤ q.2 ∧ q.2 < N
  acy : ∀ q ∈ l, q.1 < q.2
  len : l.length ≤ f * 40 + t
  hp : w.heap.size ≤ p
  hpG : p < G
  hG : G < wr.heap.size
theorem AcySt.read {p G N f t : Nat} {l : List (Int × Int)} {w wr w' : World} (h : AcySt p G N f t l w wr) (hs : SrcOk w' p) (hg : wr.grownBy w' (some p)) : AcySt p G N f t l w w' :=
  { h with src := hs, hb := h.hb.trans (below_of_grownBy hg h.hp h.hb.size), hG := Nat.lt_of_lt_of_le h.hG hg.size }
theorem AcySt.add {p G N f t : Nat} {l : List (Int × Int)} {w wr w' : World} {v : Value} {e : TypeId} {size n : Nat} {xs : List Value} (h : AcySt p G N f t l w wr) (ho : wr.ownsRow (G + 1) e size v n xs) (hg : wr.grownBy w' v.ownBlock) (hbl : Below (G + 1) wr w')
    (hf : f < N) (ht : t < N) (hft : f < t) (u : Value) : AcySt p G N f (t + 1) (l ++ [((f : Int), (t : Int))]) w (w'.setCell ⟨G, 1, none⟩ u) :=
  { src := (h.src.append ho hg (by have := h.hpG; omega)).other (grownBy_setCell w' G 1 u) (fun k hk => by injection hk with hk; have := h.hpG; omega)
    hb := (h.hb.trans (hbl.mono (by have := h.hp; have := h.hpG; omega))).setCell (p := ⟨G, 1, none⟩) (by have := h.hp; have := h.hpG; show w.heap.size ≤ G; omega) u
    bef := before_snoc h.bef
    srt := List.pairwise_append.2 ⟨h.srt, List.pairwise_singleton .., fun a ha b hb => by rw [List.mem_singleton] at hb; subst hb; exact h.bef a ha⟩
    rng := fun q hq => by
      rcases List.mem_append.1 hq with hq | hq
      · exact h.rng q hq
      · rw [List.mem_singleton] at hq; subst hq; simp; omega
    acy := fun q hq => by
      rcases List.mem_append.1 hq with hq | hq
      · exact h.acy q hq
      · rw [List.mem_singleton] at hq; subst hq; simp; omega
    len := by have := h.len; simp; omega
    hp := h.hp
    hpG := h.hpG
    hG := by have := h.hG; have := hbl.size; simp [World.setCell]; omega }
theorem AcySt.next {p G N f t : Nat} {l : List (Int × Int)} {w wr : World} (h : AcySt p G N f t l w wr) : AcySt p G N f (t + 1) l w wr :=
  { h with bef := before_next h.bef, len := by have := h.len; omega }
theorem AcySt.row {p G N f : Nat} {l : List (Int × Int)} {w wr : World} (h : AcySt p G N f N l w wr) (hN : N ≤ 40) : AcySt p G N (f + 1) (f + 2) l w wr :=
  { h with bef := (fun q hq => by have := before_row h.bef h.rng q hq; unfold ltP at *; simp at *; omega), len := by have := h.len; omega }

set_option maxRecDepth 100000 in
set_option maxHeartbeats 8000000 in
theorem acyclic_law_any (A : Option Addr) (arg : List Int) (c : Nat) (w : World)
    (hlc : arg.length ≤ c) (hc : c ≤ 9223372036854775807) (hr : RI w A arg) (hx : ∀ x ∈ arg, -9223372036854775808 ≤ x ∧ x ≤ 9223372036854775807) (hT : Tab w) :
    Calls Tryd.prog 9 #[.slice A arg.length c] w (RetB (.bool true) w) := by
  go_enter Tryd.func9, Tryd.ntmps9
  go_wp2_with fail
  refine (new_any A arg c w hlc hc hr hx).mono ?_
  rintro e w1 ⟨p, rfl, hp, hs1, hb1⟩
  clear hr hx
  go_wp2_with fail
  refine (n_any p 7 w1 hs1 (by omega) (by omega)).mono ?_
  rintro e w2 ⟨d, rfl, hd1, hd2, hs2, hg2⟩
  have hb2 : Below w.heap.size w w2 := hb1.trans (below_of_grownBy hg2 hp hb1.size)
  obtain ⟨N, rfl⟩ := Int.eq_ofNat_of_zero_le hd1
  have hN6 : N ≤ 6 := by omega
  clear hs1 hb1 hg2 hd1 hd2
  go_wp2_with fail
  obtain ⟨W1, hW, kg1, hb1, hlt1⟩ : ∃ W1, w2.alloc (.cells #[.int .i64 (N : Int), .slice none 0 0] 27) = W1 ∧ Blk W1 w2.heap.size 27 #[.int .i64 (N : Int), .slice none 0 0] ∧ Below w2.heap.size w2 W1 ∧ w2.heap.size < W1.heap.size :=
    ⟨_, rfl, Blk.new _ _ _, newB _ _, by simp⟩
  have hst0 : AcySt p w2.heap.size N 0 1 [] w W1 :=
    { src := hs2.kept hb1, hb := endB hb2 hb1, bef := (fun q hq => by cases hq), srt := List.Pairwise.nil, rng := (fun q hq => by cases hq), acy := (fun q hq => by cases hq), len := by simp, hp := hp, hpG := hs2.lt, hG := hlt1 }
  have hgg0 : GenG w2.heap.size (w2.heap.size + 1) N [] (.slice none 0 0) W1 := ⟨kg1, OwnP.nil _ _⟩
  rw [hW]
  clear hs2 kg1 hb1 hb2 hlt1 hp hW
  generalize w2.heap.size = G at *
  go_loopw [5] (fun i wr => ∃ (f : Nat) (l : List (Int × Int)) (v : Value), f ≤ N ∧ i = .int .i64 f ∧ GenG G (G + 1) N l v wr ∧ AcySt p G N f (f + 1) l w wr) (fun i _ => N - (intOf i).toNat)
  case atStart => exact ⟨0, [], _, by omega, rfl, hgg0, hst0⟩
  case round =>
    obtain ⟨f, l, v, hf, rfl, hgg, hst⟩ := hrel
    obtain ⟨a0, a1, a2, a3⟩ := hgg.blk.two
    clear hgg0 hst0
    by_cases hfN : f < N
    case pos =>
      have hfN' : (f : Int) < (N : Int) := by omega
      obtain ⟨wo, hwo⟩ : ∃ wo, wo = wr := ⟨_, rfl⟩
      subst hwo
      go_wp2_with fail
      clear a0 a1 a2 a3
      go_loopw [6] (fun i wr => ∃ (t : Nat) (l : List (Int × Int)) (v : Value), f < t ∧ t ≤ N ∧ i = .int .i64 t ∧ GenG G (G + 1) N l v wr ∧ AcySt p G N f t l w wr) (fun i _ => N - (intOf i).toNat)
      case atStart => exact ⟨f + 1, l, v, by omega, by omega, by go_num, hgg, hst⟩
      case round =>
        clear hgg hst
        obtain ⟨t, l, v, hft, ht, rfl, hgg, hst⟩ := hrel
        obtain ⟨a0, a1, a2, a3⟩ := hgg.blk.two
        by_cases htN : t < N
        case neg =>
          obtain rfl : t = N := by omega
          go_wp2
          go_roundw
          case rel => exact ⟨f + 1, l, v, by omega, by go_num, hgg, hst.row (by omega)⟩
          case measure => simp [intOf]; omega
        case pos =>
        have htN' : (t : Int) < (N : Int) := by omega
        have hsrc := hst.src
        go_wp2_with fail
        refine (n_any p 3 wr hsrc (by omega) (by omega)).mono ?_
        rintro e w3 ⟨k, rfl, hk1, hk2, hs3, hg3⟩
        have hgg3 : GenG G (G + 1) N l v w3 := ⟨hgg.blk.grown hg3 (fun e => by injection e with e; have := hst.hpG; omega), ownsRow_far hgg.own hg3 (by have := hst.hpG; omega)⟩
        have hst3 := hst.read hs3 hg3
        clear hgg hst a0 a1 a2 a3 hg3 hs3 hsrc
        obtain ⟨a0, a1, a2, a3⟩ := hgg3.blk.two
        have hlen3 : l.length ≤ 1000000 := by have := hst3.len; omega
        have hbs : G + 1 ≤ w3.heap.size := hst3.hG
        by_cases hk0 : k = 0
        · have hkb : (k == 0) = true := by simp [hk0]
          have Hk0 := Lib.hid hk0; clear hk0
          go_wp2_with (at_builtin; (refine wpList_appP (by rfl) _ _ (by rfl) w3 (G + 1) _ l (f : Int) (t : Int) hgg3.own (by rfl) (by rfl) hlen3 hbs ?_; intro v' w4 hown4 hb4 hg4; (obtain ⟨A', c', rfl, _, _⟩ := OwnP.form hown4); rw [List.length_append] at hown4; simp only [List.length_singleton] at hown4; have kg4 := hgg3.blk.append hgg3.own hg4 (Nat.lt_succ_self G); (obtain ⟨b0, b1, b2, b3⟩ := kg4.two)))
          go_roundw
          case rel => exact ⟨t + 1, l ++ [((f : Int), (t : Int))], .slice A' _ c', by omega, by omega, by go_num, ⟨kg4.set_ 1 _, ownsRow_setCell_below hown4 (a := ⟨G, 1, none⟩) (Nat.lt_succ_self G) _⟩, hst3.add hgg3.own hg4 hb4 hfN htN hft _⟩
          case measure => simp [intOf]; omega
        · have hkb : (k == 0) = false := by simp [hk0]
          have Hk0 := Lib.hid hk0; clear hk0
          go_wp2_with fail
          go_roundw
          case rel => exact ⟨t + 1, l, v, by omega, by omega, by go_num, hgg3, hst3.next⟩
          case measure => simp [intOf]; omega
    case neg =>
    obtain ⟨AL, cl, rfl, hrp, hAn⟩ := hgg.own.form
    have hv : Vld N l := ⟨⟨by omega, by have := hst.len; omega, hst.rng⟩, hst.srt⟩
    have hac := hst.acy
    have hB0 := hst.hb
    have hxin := acy_in hv.1 hac
    have hcom : ∀ y, labB N y = true → comB N l y = eqB (lst N (grL N l)) y := fun y hy => acy_com hv.1 hac hy
    have hlen := hv.1.2.1
    have HV := Lib.hid hv; have Hcom := Lib.hid hcom
    obtain ⟨W0, hW0⟩ : ∃ W0, W0 = wr := ⟨_, rfl⟩
    subst hW0
    clear hgg hst hv hcom hac hAn
    go_wp2_with fail
    refine (gLabel_any _ N l _ W0 hrp HV.out (hT.below hB0)).mono ?_
    rintro e W2 ⟨AX, cx, rfl, _, hrx, _, hb2⟩
    have hxl := lst_length N (grL N l)
    generalize lst N (grL N l) = x at *
    have Hxl := Lib.hid hxl
    have hx6 : x.length ≤ 6 := by omega
    have hxn : ((x.length : Int) != (N : Int)) = false := by simp [hxl]
    have hB2 := endB hB0 hb2
    have hT2 := hT.below hB2
    have hr2 := hrp.below hb2
    have d0 := (hb2.cell (lt_of_cell a0)).trans a0
    have d1 := (hb2.cell (lt_of_cell a1)).trans a1
    clear a0 a1 a2 a3 hB0 hrp hb2 hT
    have H9 := in_any AX x cx 3 W2 (by omega) hrx
    rw [hxin] at H9
    clear hxl hxin
    go_wp2_with fail
    refine H9.mono ?_
    clear H9
    rintro e W3 ⟨rfl, rfl⟩
    go_wp2_with fail
    refine (r11Labellings_any N W2 (by omega)).mono ?_
    rintro e B ⟨AS, cS, rfl, hrs, hbB⟩
    have e0 := (hbB.cell (lt_of_cell d0)).trans d0
    have e1 := (hbB.cell (lt_of_cell d1)).trans d1
    have hrB := hr2.below hbB
    have hrxB := hrx.below hbB
    have hBw := endB hB2 hbB
    have hTB := hT2.below hbB
    have hLS := labs_small (n := N) (by omega)
    have hlab : ∀ k (h : k < (labsL N).length), labB N (labsL N)[k] = true := fun k h => (mem_labs N _).1 (List.getElem_mem h)
    have Hlab := Lib.hid hlab
    clear hlab hbB hT2 hB2 hr2 hrx d0 d1 hxn
    generalize labsL N = LS at *
    go_wp2_with fail
    go_loopw [55] (fun i wr => ∃ k : Nat, k ≤ LS.length ∧ i = .int .i64 k ∧ Below B.heap.size B wr) (fun i _ => LS.length - (intOf i).toNat)
    case atStart => exact ⟨0, Nat.zero_le _, rfl, Below.refl _ _⟩
    case round =>
      obtain ⟨k, hk, rfl, hbl⟩ := hrel
      by_cases hlt : k < LS.length
      case neg =>
        go_wp2_with fail
        refine (awake12_any wr (hTB.below hbl)).mono ?_
        rintro e w9 ⟨rfl, hb9⟩
        go_wp2_with fail
        go_ret
        exact ⟨rfl, hBw.trans ((endB hbl hb9).mono hBw.size)⟩
      case pos =>
      have hlt' : (k : Int) < (LS.length : Int) := by omega
      have hly := Hlab.out k hlt
      obtain ⟨b, o, AY, cy, hA, hcell, _, hri⟩ := hrs.below hbl k hlt
      subst hA
      generalize LS[k] = y at *
      have hyl := (labB_iff.1 hly).1
      have hy6 : y.length ≤ 6 := by omega
      have heq := Hcom.out y hly
      obtain ⟨W3, hW3⟩ : ∃ W3, W3 = wr := ⟨_, rfl⟩
      subst hW3
      have d0 := (hbl.cell (lt_of_cell e0)).trans e0
      have d1 := (hbl.cell (lt_of_cell e1)).trans e1
      have Hyl := Lib.hid hyl
      have H8 := lIsComplete_any AL N l cl AY y cy W3 (hrB.below hbl) HV.out hri (by omega) (hTB.below hbl)
      rw [heq] at H8
      have H9 : ∀ W, Below W3.heap.size W3 W → Calls Tryd.prog 21 #[.slice AX x.length cx, .slice AY y.length cy] W (RetQ (.bool (eqB x y)) W) := fun W hb => ints_any AX AY x y cx cy W (by omega) (by omega) (hrxB.below (endB hbl hb)) (hri.below hb)
      have H9' := Lib.hid H9
      clear hly hyl heq H9
      generalize eqB x y = b0 at *
      go_wp2_with fail
      refine H8.mono ?_
      clear H8
      rintro e W4 ⟨rfl, hb4⟩
      go_wp2_with fail
      refine (H9'.out W4 hb4).mono ?_
      rintro e W5 hh
      obtain ⟨rfl, hb5⟩ := hh.below
      clear hh
      have hbl5 := endB (endB hbl hb4) hb5
      have hne : (b0 != b0) = false := by simp
      go_wp2_with fail
      go_roundw
      case rel => exact ⟨k + 1, by omega, by go_num, hbl5⟩
      case measure => simp [intOf]; omega
end Go.Proofs.YtiljbfeipfdmdaaDoor
