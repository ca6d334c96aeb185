import Derived.Test.YtncimnfhfomddaaDoorGenM
import Derived.Test.YtncimnfhfomddaaDoorNet
/- The walk of net.Graph. Printed by gen_netg.py. -/
namespace Go.Proofs.YtncimnfhfomddaaDoor
open Go.ChangeShapes Go.WideShapes Go.ChangeAt Go.RowKit

theorem krange_any (p : Nat) (lo hi : Int) (w : World) (h : SrcOk w p) (h0 : 0 ≤ lo) (h1 : lo ≤ hi) (h2 : hi ≤ 1000) :
    Calls Tryd.prog 16 #[.pointer (some ⟨p, 0, none⟩), .int .i64 lo, .int .i64 hi] w (RetN lo hi w p) := by
  have e1 : wrap64 (hi - lo) = hi - lo := by unfold wrap64; omega
  have e2 : wrap64 (hi - lo + 1) = hi - lo + 1 := by unfold wrap64; omega
  have hn := n_any p (hi - lo + 1) w h (by omega) (by omega)
  have Hn := Lib.hid hn
  clear hn
  go_enter Tryd.func16, Tryd.ntmps16
  go_wp2_with fail
  refine Hn.out.mono ?_
  rintro e w1 ⟨v, rfl, hv1, hv2, hs, hg⟩
  have e3 : wrap64 (lo + v) = lo + v := by unfold wrap64; omega
  go_wp2_with fail
  go_ret
  exact ⟨_, rfl, by omega, by omega, hs, hg⟩
def RetGn (p n : Nat) (w : World) : Ending → World → Prop := fun e w' => ∃ (N : Nat) (l : List (Int × Int)) (A : Option Addr) (c : Nat), e = .returned (.agg #[.int .i64 (N : Int), .slice A l.length c]) ∧ 1 ≤ N ∧ N ≤ n ∧ Vld N l ∧ RP w' A l ∧
  (∀ b o, A = some ⟨b, o, none⟩ → w.heap.size ≤ b) ∧ SrcOk w' p ∧ w.grownBy w' (some p) ∧ (A = none → l = [] ∧ c = 0)

set_option maxRecDepth 100000 in
set_option maxHeartbeats 4000000 in
theorem netGraph_any (p : Nat) (n : Nat) (w : World) (h : SrcOk w p) (hn0 : 1 ≤ n) (hn : n ≤ 40) :
    Calls Tryd.prog 15 #[.pointer (some ⟨p, 0, none⟩), .int .i64 (n : Int)] w (RetGn p n w) := by
  have hpl := h.lt
  go_enter Tryd.func15, Tryd.ntmps15
  go_wp2_with fail
  obtain ⟨W0, hW, k0, hb0, hlt0⟩ : ∃ W0, w.alloc (.cells #[.int .i64 0, .slice none 0 0] 24) = W0 ∧ Blk W0 w.heap.size 24 #[.int .i64 0, .slice none 0 0] ∧ Below w.heap.size w W0 ∧ w.heap.size < W0.heap.size :=
    ⟨_, rfl, Blk.new _ _ _, (Below.refl _ _).alloc (Nat.le_refl _) _, by simp⟩
  rw [hW]
  have hs0 := h.kept hb0
  clear hW h
  refine (krange_any p 1 (n : Int) W0 hs0 (by omega) (by omega) (by omega)).mono ?_
  rintro e w1 ⟨N, rfl, hN1, hN2, hs1, hg1⟩
  obtain ⟨N, rfl⟩ := Int.eq_ofNat_of_zero_le (by omega : (0 : Int) ≤ N)
  have hsz1 := hg1.size
  have k1 := k0.grown hg1 (fun e => by injection e; omega)
  go_wp2_with fail
  obtain ⟨W1, hW, kg1, hb1, hlt1⟩ : ∃ W1, w1.alloc (.cells #[.int .i64 (N : Int), .slice none 0 0] 24) = W1 ∧ Blk W1 w1.heap.size 24 #[.int .i64 (N : Int), .slice none 0 0] ∧ Below w1.heap.size w1 W1 ∧ W1.heap.size = w1.heap.size + 1 :=
    ⟨_, rfl, Blk.new _ _ _, (Below.refl _ _).alloc (Nat.le_refl _) _, by simp⟩
  rw [hW]
  have hs1' := hs1.kept hb1
  have k1' := k1.below hb1 k1.lt
  have hlt1' : w1.heap.size + 1 ≤ W1.heap.size := by omega
  have Hlt1 := Lib.hid hlt1
  clear hW hlt1
  refine (krange_any p 2 5 W1 hs1' (by decide) (by decide) (by decide)).mono ?_
  rintro e w2 ⟨d, rfl, hd1, hd2, hs2, hg2⟩
  have kg2 := kg1.grown hg2 (fun e => by injection e; omega)
  have k2 := k1'.grown hg2 (fun e => by injection e; omega)
  have hsz2 := hg2.size
  have hN40 : N ≤ 40 := by omega
  have hd7 : d ≤ 5 := by omega
  have hnear : Near p w.heap.size w w2 :=
    (((Near.of_below hb0).trans (Near.of_grown hg1 (by omega))).trans (Near.of_below (hb1.mono (by omega)))).trans (Near.of_grown hg2 (by omega))
  have hst0 : GenSt p w1.heap.size w.heap.size (w1.heap.size + 1) N 0 0 [] w w2 :=
    { src := hs2, near := hnear, res := k2, bef := (fun q hq => by cases hq), srt := List.Pairwise.nil, rng := (fun q hq => by cases hq), len := by simp, hG := by omega, hR := by omega, hRG := by omega, hp := by omega, hpG := by omega, hpR := by omega, hb := by omega, hpW := hpl, hWb := Nat.le_refl _, hWG := by omega }
  have hgg0 : GenG w1.heap.size (w1.heap.size + 1) N [] (.slice none 0 0) w2 := ⟨kg2, OwnP.nil _ _⟩
  clear k0 k1 k1' kg1 kg2 k2 hg1 hg2 hs0 hs1 hs1' hs2 hb0 hb1 hnear
  generalize hGG : w1.heap.size = G at *
  clear hGG
  go_wp2_with fail
  go_loopw [7] (fun i wr => ∃ (f : Nat) (l : List (Int × Int)) (v : Value), f ≤ N ∧ i = .int .i64 f ∧ GenG G (G + 1) N l v wr ∧ GenSt p G w.heap.size (G + 1) N f 0 l w wr) (fun i _ => N - (intOf i).toNat)
  case atStart => exact ⟨0, [], _, by omega, rfl, hgg0, hst0⟩
  case round =>
    obtain ⟨f, l, v, hf, rfl, hgg, hst⟩ := hrel
    obtain ⟨a0, a1, a2, a3⟩ := hgg.blk.two
    clear hgg0 hst0
    by_cases hfN : f < N
    case neg =>
      obtain ⟨r0, r1, r2, r3⟩ := hst.res.two
      obtain ⟨A, c, rfl, hrp, hAn⟩ := hgg.own.form2
      have hE := hst.ends (by omega) hf
      go_wp2_with fail
      refine bodyPost_ret (v := .agg #[.int .i64 N, .slice A l.length c]) (by simp [results, Tryd.results15, go_sem, (hst.res.set_ 0 _ |>.set_ 1 _).two.1, (hst.res.set_ 0 _ |>.set_ 1 _).two.2.1]) rfl ?_
      obtain ⟨h1, h2, h3⟩ := hE (.int .i64 N) (.slice A l.length c)
      have hloc : ∀ b o, A = some ⟨b, o, none⟩ → w.heap.size ≤ b ∧ b ≠ w.heap.size := fun b o hA => by
        subst hA
        have := (hgg.own.lt b rfl).1; have := hst.hWG; have := hst.hRG; omega
      exact ⟨N, l, A, c, rfl, by omega, by omega, h1, hrp.far2 (fun b o hA _ => (hloc b o hA).2) _ _, fun b o hA => (hloc b o hA).1, h2, h3, hAn⟩
    case pos =>
    have hfN' : (f : Int) < (N : Int) := by omega
    obtain ⟨wo, hwo⟩ : ∃ wo, wo = wr := ⟨_, rfl⟩
    subst hwo
    go_wp2_with fail
    clear a0 a1 a2 a3
    go_loopw [8] (fun i wr => ∃ (t : Nat) (l : List (Int × Int)) (v : Value), t ≤ N ∧ i = .int .i64 t ∧ GenG G (G + 1) N l v wr ∧ GenSt p G w.heap.size (G + 1) N f t l w wr) (fun i _ => N - (intOf i).toNat)
    case atStart => exact ⟨0, l, v, by omega, rfl, hgg, hst⟩
    case round =>
      clear hgg hst
      obtain ⟨t, l, v, ht, rfl, hgg, hst⟩ := hrel
      obtain ⟨a0, a1, a2, a3⟩ := hgg.blk.two
      by_cases htN : t < N
      case neg =>
        obtain rfl : t = N := by omega
        go_wp2
        go_roundw
        case rel => exact ⟨f + 1, l, v, by omega, by go_num, hgg, hst.row hN40⟩
        case measure => simp [intOf]; omega
      case pos =>
      have htN' : (t : Int) < (N : Int) := by omega
      have hsrc := hst.src
      by_cases hft : f = t
      · obtain rfl : t = f := hft.symm
        go_wp2_with fail
        refine (n_any p 9 wr hsrc (by omega) (by omega)).mono ?_
        rintro e w3 ⟨k, rfl, hk1, hk2, hs3, hg3⟩
        have hgg3 : GenG G (G + 1) N l v w3 := ⟨hgg.blk.grown hg3 (fun e => by injection e with e; exact hst.hpG e.symm), ownsRow_far hgg.own hg3 hst.hp⟩
        have hst3 := hst.read hs3 hg3
        clear hgg hst a0 a1 a2 a3 hg3 hs3 hsrc
        obtain ⟨a0, a1, a2, a3⟩ := hgg3.blk.two
        have hlen3 : l.length ≤ 1000000 := by have := hst3.len; omega
        have hbs := hst3.hb
        by_cases hk1 : k = 1
        · have hkb : (k == 1) = true := by simp [hk1]
          have Hk0 := Lib.hid hk1; clear hk1
          go_wp2_with (at_builtin; (refine wpList_appP (by rfl) _ _ (by rfl) w3 (G + 1) _ l (t : Int) (t : Int) hgg3.own (by rfl) (by rfl) hlen3 hbs ?_; intro v' w4 hown4 hb4 hg4; (obtain ⟨A', c', rfl, _, _⟩ := OwnP.form hown4); rw [List.length_append] at hown4; simp only [List.length_singleton] at hown4; have kg4 := hgg3.blk.append hgg3.own hg4 (Nat.lt_succ_self G); (obtain ⟨b0, b1, b2, b3⟩ := kg4.two)))
          go_roundw
          case rel => exact ⟨t + 1, l ++ [((t : Int), (t : Int))], .slice A' _ c', by omega, by go_num, ⟨kg4.set_ 1 _, ownsRow_setCell_below hown4 (a := ⟨G, 1, none⟩) (Nat.lt_succ_self G) _⟩, hst3.add hgg3.own hg4 hb4 htN htN _⟩
          case measure => simp [intOf]; omega
        · have hkb : (k == 1) = false := by simp [hk1]
          have Hk0 := Lib.hid hk1; clear hk1
          go_wp2_with fail
          go_roundw
          case rel => exact ⟨t + 1, l, v, by omega, by go_num, hgg3, hst3.next⟩
          case measure => simp [intOf]; omega
      · have hne : ((f : Int) == (t : Int)) = false := by rw [beq_eq_false_iff_ne]; omega
        have Hft := Lib.hid hft; clear hft
        go_wp2_with fail
        refine (n_any p d wr hsrc (by omega) (by omega)).mono ?_
        rintro e w3 ⟨k, rfl, hk1, hk2, hs3, hg3⟩
        have hgg3 : GenG G (G + 1) N l v w3 := ⟨hgg.blk.grown hg3 (fun e => by injection e with e; exact hst.hpG e.symm), ownsRow_far hgg.own hg3 hst.hp⟩
        have hst3 := hst.read hs3 hg3
        clear hgg hst a0 a1 a2 a3 hg3 hs3 hsrc
        obtain ⟨a0, a1, a2, a3⟩ := hgg3.blk.two
        have hlen3 : l.length ≤ 1000000 := by have := hst3.len; omega
        have hbs := hst3.hb
        by_cases hk1 : k = 1
        · have hkb : (k == 1) = true := by simp [hk1]
          have Hk0 := Lib.hid hk1; clear hk1
          go_wp2_with (at_builtin; (refine wpList_appP (by rfl) _ _ (by rfl) w3 (G + 1) _ l (f : Int) (t : Int) hgg3.own (by rfl) (by rfl) hlen3 hbs ?_; intro v' w4 hown4 hb4 hg4; (obtain ⟨A', c', rfl, _, _⟩ := OwnP.form hown4); rw [List.length_append] at hown4; simp only [List.length_singleton] at hown4; have kg4 := hgg3.blk.append hgg3.own hg4 (Nat.lt_succ_self G); (obtain ⟨b0, b1, b2, b3⟩ := kg4.two)))
          go_roundw
          case rel => exact ⟨t + 1, l ++ [((f : Int), (t : Int))], .slice A' _ c', by omega, by go_num, ⟨kg4.set_ 1 _, ownsRow_setCell_below hown4 (a := ⟨G, 1, none⟩) (Nat.lt_succ_self G) _⟩, hst3.add hgg3.own hg4 hb4 hfN htN _⟩
          case measure => simp [intOf]; omega
        · have hkb : (k == 1) = false := by simp [hk1]
          have Hk0 := Lib.hid hk1; clear hk1
          go_wp2_with fail
          go_roundw
          case rel => exact ⟨t + 1, l, v, by omega, by go_num, hgg3, hst3.next⟩
          case measure => simp [intOf]; omega
end Go.Proofs.YtncimnfhfomddaaDoor

/- The walk of net.Has. -/
namespace Go.Proofs.YtncimnfhfomddaaDoor
open Go.ChangeShapes Go.WideShapes Go.ChangeAt Go.RowKit

set_option maxHeartbeats 2000000 in
theorem gnHas_any (A : Option Addr) (N : Int) (l : List (Int × Int)) (c : Nat) (f t : Int) (w : World) (hr : RP w A l) (hlen : l.length ≤ 100000) :
    Calls Tryd.prog 40 #[.agg #[.int .i64 N, .slice A l.length c], .int .i64 f, .int .i64 t] w (RetB (.bool (hasB l f t)) w) := by
  go_enter Tryd.func40, Tryd.ntmps40
  go_wp2_with fail
  obtain ⟨W0, hW, c0, c1, hb0, hlt0⟩ := boxed w 24 (.int .i64 N) (.slice A l.length c)
  rw [hW]
  have hr0 := hr.below hb0
  clear hW hr
  go_loop [7] (fun i => ∃ k : Nat, k ≤ l.length ∧ i = .int .i64 k ∧ hasB (l.take k) f t = false) (fun i => l.length - (intOf i).toNat)
  case atStart => exact ⟨0, by omega, rfl, by simp [hasB]⟩
  case round =>
    obtain ⟨k, hk, rfl, hno⟩ := hrel
    have Hno := Lib.hid hno; clear hno
    by_cases hlt : k < l.length
    case neg =>
      go_wp2
      go_ret
      exact ⟨rb (by have := Hno.out; rw [List.take_of_length_le (by omega)] at this; exact this.symm), hb0⟩
    case pos =>
    obtain ⟨b, o, rfl, hc, hd⟩ := hr0.at_ hlt
    by_cases t1 : l[k].1 = f
    case neg =>
      have g1 : (l[k].1 == f) = false := by simpa using t1
      have T1 := Lib.hid t1; clear t1
      go_wp2
      go_round
      case rel => exact ⟨k + 1, by omega, by go_num, hasB_next hlt Hno.out (fun h => T1.out (congrArg Prod.fst h))⟩
      case measure => simp [intOf]; omega
    case pos =>
    have g1 : (l[k].1 == f) = true := by simpa using t1
    by_cases t2 : l[k].2 = t
    · have g2 : (l[k].2 == t) = true := by simpa using t2
      have T1 := Lib.hid t1; have T2 := Lib.hid t2; clear t1 t2
      go_wp2
      go_ret
      exact ⟨rb (hasB_hit hlt T1.out T2.out).symm, hb0⟩
    · have g2 : (l[k].2 == t) = false := by simpa using t2
      have T1 := Lib.hid t1; have T2 := Lib.hid t2; clear t1 t2
      go_wp2
      go_round
      case rel => exact ⟨k + 1, by omega, by go_num, hasB_next hlt Hno.out (fun h => T2.out (congrArg Prod.snd h))⟩
      case measure => simp [intOf]; omega
theorem hasB_att {l : List (Int × Int)} {a b : Nat} : hasB l (a : Int) (b : Int) = attQ l a b := by
  rw [Bool.eq_iff_iff, hasB_iff, attQ_iff]; rfl
end Go.Proofs.YtncimnfhfomddaaDoor
