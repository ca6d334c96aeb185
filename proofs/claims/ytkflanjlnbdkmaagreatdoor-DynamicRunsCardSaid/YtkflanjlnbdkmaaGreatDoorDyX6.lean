import Derived.Test.YtkflanjlnbdkmaaGreatDoorDyX5
import Derived.Test.YtkflanjlnbdkmaaGreatDoorG10
import Derived.Test.YtkflanjlnbdkmaaGreatDoorLc
/- law19: awake; ref19.Same; keep.Change, More. -/
namespace Go.Proofs.YtkflanjlnbdkmaaGreatDoor
open Go.ChangeShapes Go.WideShapes Go.ChangeAt Go.RowKit

def RetCh19 (w : World) : Ending → World → Prop := fun e w' => ∃ A c, e = .returned (.agg #[.int .i64 3, .slice A 2 c]) ∧ RP w' A chainG ∧ (A = none → chainG = [] ∧ c = 0) ∧ Below w.heap.size w w'
set_option maxHeartbeats 1000000 in
theorem chain19_any (w : World) : Calls Tryz.prog 33 #[] w (RetCh19 w) := by
  go_enter Tryz.func33, Tryz.ntmps33
  go_upto_region 1 with fail
  obtain ⟨W0, hW, k0, hb0, hlt0⟩ : ∃ W0, w.alloc (.cells #[.int .i64 0, .slice none 0 0] 24) = W0 ∧ Blk W0 w.heap.size 24 #[.int .i64 0, .slice none 0 0] ∧ Below w.heap.size w W0 ∧ w.heap.size < W0.heap.size := ⟨_, rfl, Blk.new _ _ _, newB _ _, by simp⟩
  rw [hW]
  obtain ⟨c0, c1, f0, f1⟩ := k0.two
  obtain ⟨W1, hW1, h1, hb1⟩ : ∃ W1, W0.alloc (.cells #[.int .i64 0, .int .i64 1, .int .i64 1, .int .i64 2] 54) = W1 ∧ Blk W1 W0.heap.size 54 #[.int .i64 0, .int .i64 1, .int .i64 1, .int .i64 2] ∧ Below W0.heap.size W0 W1 := ⟨_, rfl, Blk.new _ _ _, newB _ _⟩
  have k1 := k0.below hb1 k0.lt
  obtain ⟨e0, e1, g0, g1⟩ := k1.two
  have k2 : Blk ((W1.setCell ⟨w.heap.size, 0, none⟩ (.int .i64 3)).setCell ⟨w.heap.size, 1, none⟩ (.slice (some ⟨W0.heap.size, 0, none⟩) 2 2)) w.heap.size 24 #[.int .i64 3, .slice (some ⟨W0.heap.size, 0, none⟩) 2 2] := (k1.set_ 0 _).set_ 1 _
  have h2 : Blk ((W1.setCell ⟨w.heap.size, 0, none⟩ (.int .i64 3)).setCell ⟨w.heap.size, 1, none⟩ (.slice (some ⟨W0.heap.size, 0, none⟩) 2 2)) W0.heap.size 54 #[.int .i64 0, .int .i64 1, .int .i64 1, .int .i64 2] := (h1.far (p := ⟨w.heap.size, 0, none⟩) (by simp; omega) _).far (p := ⟨w.heap.size, 1, none⟩) (by simp; omega) _
  have hbb := ((endB hb0 hb1).setCell (p := ⟨w.heap.size, 0, none⟩) (Nat.le_refl _) (.int .i64 3)).setCell (p := ⟨w.heap.size, 1, none⟩) (Nat.le_refl _) (.slice (some ⟨W0.heap.size, 0, none⟩) 2 2)
  obtain ⟨W2, hW2⟩ : ∃ W, (W1.setCell ⟨w.heap.size, 0, none⟩ (.int .i64 3)).setCell ⟨w.heap.size, 1, none⟩ (.slice (some ⟨W0.heap.size, 0, none⟩) 2 2) = W := ⟨_, rfl⟩
  rw [hW2] at k2 h2 hbb
  obtain ⟨q0, q1, _, _⟩ := k2.two
  clear hW
  go_wp2_with fail
  refine bodyPost_ret (v := .agg #[.int .i64 3, .slice (some ⟨W0.heap.size, 0, none⟩) 2 2]) (by simp [results, Tryz.results33, go_sem, q0, q1]) rfl ?_
  exact ⟨_, _, rfl, h2.pairs, (fun e => by cases e), hbb⟩
theorem chainE_new : nGn 3 chainG = 3 ∧ nGl 3 chainG = chainG ∧ gLb 3 chainG = [1, 2, 1] ∧ valE 3 chainG = 0 := by decide +kernel
theorem chainE_app : apN 3 chainG 2 0 1 = 3 ∧ apL 3 chainG 2 0 1 = [(1, 2)] ∧ apG 3 chainG 2 0 1 = [1, 1, 2] ∧ apF 3 chainG 2 0 1 = [1, 2] ∧ chkE 3 chainG 2 0 1 = 0 := by decide +kernel
set_option maxRecDepth 100000 in
set_option maxHeartbeats 4000000 in
theorem awake19_any (w : World) (hT : Tab w) : Calls Tryz.prog 15 #[] w (RetB (.bool true) w) := by
  go_enter Tryz.func15, Tryz.ntmps15
  go_wp2_with fail
  refine (chain19_any w).mono ?_
  rintro e w1 ⟨A1, c1, rfl, hrp1, hn1, hb1⟩
  have hT1 := hT.below hb1
  have H1 := dnew_any A1 3 chainG c1 w1 hrp1 hn1 (by decide) hT1
  obtain ⟨e1, e2, e3, e4⟩ := chainE_new
  rw [e1, e2, e3, e4] at H1
  have HH1 := Lib.hid H1
  clear H1 e1 e2 e3 e4 hrp1 hn1
  go_wp2_with fail
  refine HH1.out.mono ?_
  rintro e w2 ⟨A2, c2, B2, d2, rfl, hop2, hoi2, hb2⟩
  clear HH1
  go_upto_region 2 with fail
  obtain ⟨W3, hW3, k3, hb3, hlt3⟩ := boxed3 w2 27 (.int .i64 3) (.slice A2 chainG.length c2) (.slice B2 3 d2)
  have hT3 := (hT1.below hb2).below hb3
  obtain ⟨hr2, hn2⟩ := OwnP.form3 hop2
  obtain ⟨hi2, hm2⟩ := OwnI.form3 hoi2
  have H2 := dApply_good A2 B2 3 chainG c2 d2 2 0 1 W3 (hr2.below hb3) hn2 (by rw [gr_chain]; exact hi2.below hb3) (by rw [gr_chain]; exact hm2) chain_vld hT3
  obtain ⟨e1, e2, e3, e4, e5⟩ := chainE_app
  rw [e1, e2, e3, e4, e5, gr_chain] at H2
  have HH2 := Lib.hid H2
  have hi3 := hi2.below hb3
  have hbb3 := endB (endB hb1 hb2) hb3
  obtain ⟨q0, q1, q2, _, _, _⟩ := k3.threeF
  rw [hW3]
  have k3' := k3
  clear H2 e1 e2 e3 e4 e5 hop2 hoi2 hr2 hn2 hi2 hm2 hW3 hT1 hb1 hb2 hT3 hb3
  go_wp2_with fail
  refine HH2.out.mono ?_
  rintro e w4 ⟨A4, c4, B4, d4, F4, f4, rfl, ⟨_, _, _⟩, ⟨hri4, _, _⟩, ⟨hrf4, _⟩, hb4⟩
  have k34 := k3.below hb4 k3.lt
  have hi4 := hi3.below hb4
  have hbb4 := endB hbb3 hb4
  clear HH2 k3 k3' hi3 q0 q1 q2 hb4
  go_upto_region 3 with fail
  obtain ⟨W5, hW5, k5, hb5, hlt5⟩ := boxed3 w4 27 (.int .i64 3) (.slice A4 1 c4) (.slice B4 3 d4)
  rw [hW5]
  have k35 := k34.below hb5 k34.lt
  have hi5 := hi4.below hb5
  have hri5 := hri4.below hb5
  have hrf5 := hrf4.below hb5
  have hbb5 := endB hbb4 hb5
  obtain ⟨q0, q1, q2, _, _, _⟩ := k35.threeF
  clear hW5 k34 hi4 hri4 hrf4 hb5
  have hE1 : eqB [1, 2, 1] [1, 2, 1] = true := by decide
  have hE2 : eqB [1, 2] [1, 2] = true := by decide
  have hE3 : eqB [1, 1, 2] [1, 1, 2] = true := by decide
  go_wp2_with fail
  have h6 := ints_any B2 (some ⟨W5.heap.size, 0, none⟩) [1, 2, 1] [1, 2, 1] d2 3 (W5.alloc (.cells #[.int .i64 1, .int .i64 2, .int .i64 1] 3)) (by decide) (by decide) (hi5.below (newB _ _)) (new_ri3 _ _ _ _ _)
  rw [hE1] at h6
  refine h6.mono ?_
  rintro e w6 ⟨rfl, hq6⟩
  have hb6 := thenB (newB W5 (.cells #[.int .i64 1, .int .i64 2, .int .i64 1] 3)) (RetQ.below (v := .bool true) ⟨rfl, hq6⟩).2
  have hri6 := hri5.below hb6
  have hrf6 := hrf5.below hb6
  have k56 := k5.below hb6 k5.lt
  have hbb6 := endB hbb5 hb6
  clear h6 hq6 hb6 hri5 hrf5 k35 q0 q1 q2 hi5 k5
  obtain ⟨p0, p1, p2, _, _, _⟩ := k56.threeF
  go_wp2_with fail
  have h7 := ints_any F4 (some ⟨w6.heap.size, 0, none⟩) [1, 2] [1, 2] f4 2 (w6.alloc (.cells #[.int .i64 1, .int .i64 2] 3)) (by decide) (by decide) (hrf6.below (newB _ _)) (new_ri2 _ _ _ _)
  rw [hE2] at h7
  refine h7.mono ?_
  rintro e w7 ⟨rfl, hq7⟩
  have hb7 := thenB (newB w6 (.cells #[.int .i64 1, .int .i64 2] 3)) (RetQ.below (v := .bool true) ⟨rfl, hq7⟩).2
  have hri7 := hri6.below hb7
  have k57 := k56.below hb7 k56.lt
  have hbb7 := endB hbb6 hb7
  clear h7 hq7 hb7 hri6 hrf6 k56 p0 p1 p2
  obtain ⟨p0, p1, p2, _, _, _⟩ := k57.threeF
  go_wp2_with fail
  have h8 := ints_any B4 (some ⟨w7.heap.size, 0, none⟩) [1, 1, 2] [1, 1, 2] d4 3 (w7.alloc (.cells #[.int .i64 1, .int .i64 1, .int .i64 2] 3)) (by decide) (by decide) (hri7.below (newB _ _)) (new_ri3 _ _ _ _ _)
  rw [hE3] at h8
  refine h8.mono ?_
  rintro e w8 ⟨rfl, hq8⟩
  have hb8 := thenB (newB w7 (.cells #[.int .i64 1, .int .i64 1, .int .i64 2] 3)) (RetQ.below (v := .bool true) ⟨rfl, hq8⟩).2
  clear h8 hq8
  go_wp2_with fail
  go_ret
  exact ⟨rfl, endB hbb7 hb8⟩
theorem cmpLs_iff : ∀ a b : List Int, (cmpLs a b == 0) = eqB a b
  | [], [] => rfl
  | [], y :: b => by simp [cmpLs, eqB]
  | x :: a, [] => by simp [cmpLs, eqB]
  | x :: a, y :: b => by
    have ih := cmpLs_iff a b
    unfold cmpLs
    by_cases h1 : x < y
    · rw [if_pos h1, Bool.eq_iff_iff, eqB_iff]
      simp; omega
    · rw [if_neg h1]
      by_cases h2 : y < x
      · rw [if_pos h2, Bool.eq_iff_iff, eqB_iff]
        simp; omega
      · rw [if_neg h2, ih]
        have : x = y := by omega
        subst this
        rw [Bool.eq_iff_iff, eqB_iff, eqB_iff]
        simp
/-- are two states equal? -/
def sameD (N : Int) (l : List (Int × Int)) (a : List Int) (M : Int) (m : List (Int × Int)) (b : List Int) : Bool := sameB N l M m && eqB a b
set_option maxRecDepth 100000 in
set_option maxHeartbeats 2000000 in
theorem same19_any (A1 A2 B1 B2 : Option Addr) (N M : Int) (l m : List (Int × Int)) (a b : List Int) (c1 c2 d1 d2 : Nat) (w : World) (h1 : RP w A1 l) (h2 : RP w A2 m) (h3 : RI w B1 a) (h4 : RI w B2 b) (hl : l.length ≤ 100000) (hm : m.length ≤ 100000) (ha : a.length ≤ 100000) (hb : b.length ≤ 100000) :
    Calls Tryz.prog 9 #[.agg #[.int .i64 N, .slice A1 l.length c1, .slice B1 a.length d1], .agg #[.int .i64 M, .slice A2 m.length c2, .slice B2 b.length d2]] w (RetB (.bool (sameD N l a M m b)) w) := by
  have hs := fun W (h1 : RP W A1 l) (h2 : RP W A2 m) => r10Same_any A1 A2 N M l m c1 c2 W h1 h2 hl hm
  have hcmp := fun W (h3 : RI W B1 a) (h4 : RI W B2 b) => r11Compare_any B1 B2 a b d1 d2 W h3 h4 ha hb
  have hiff := cmpLs_iff a b
  have hd : sameD N l a M m b = (sameB N l M m && eqB a b) := rfl
  obtain ⟨s, hs1⟩ : ∃ s, sameB N l M m = s := ⟨_, rfl⟩
  obtain ⟨q, hq⟩ : ∃ q, eqB a b = q := ⟨_, rfl⟩
  rw [hs1] at hs hd
  rw [hq] at hiff hd
  rw [hd]
  clear hd hs1 hq
  generalize cmpLs a b = z at *
  go_enter Tryz.func9, Tryz.ntmps9
  go_upto_region 1 with fail
  obtain ⟨W0, hW, k0, k1, hb0, hlt0⟩ := boxed33 w 27 27 (.int .i64 N) (.slice A1 l.length c1) (.slice B1 a.length d1) (.int .i64 M) (.slice A2 m.length c2) (.slice B2 b.length d2)
  rw [hW]
  obtain ⟨c0, c1', c2', _, _, _⟩ := k0.threeF
  obtain ⟨e0, e1, e2, _, _, _⟩ := k1.threeF
  have Hs := Lib.hid (hs W0 (h1.below hb0) (h2.below hb0))
  have h30 := h3.below hb0
  have h40 := h4.below hb0
  clear hW hs h1 h2 h3 h4
  go_wp2_with fail
  refine Hs.out.mono ?_
  rintro e w1 ⟨rfl, hb1⟩
  have k01 := k0.below hb1 k0.lt
  have k11 := k1.below hb1 k1.lt
  obtain ⟨c0, c1', c2', _, _, _⟩ := k01.threeF
  obtain ⟨e0, e1, e2, _, _, _⟩ := k11.threeF
  have Hc := Lib.hid (hcmp w1 (h30.below hb1) (h40.below hb1))
  have hbb := endB hb0 hb1
  clear Hs k0 k1 h30 h40 hcmp
  cases s
  · go_wp2_with fail
    go_ret
    exact ⟨rfl, hbb⟩
  · go_wp2_with fail
    refine Hc.out.mono ?_
    rintro e w2 ⟨rfl, hq2⟩
    have hb2 := (RetQ.below (v := .int .i64 z) ⟨rfl, hq2⟩).2
    clear Hc hq2
    go_wp2_with fail
    go_ret
    exact ⟨rfl, endB hbb hb2⟩
end Go.Proofs.YtkflanjlnbdkmaaGreatDoor

/- keep.Change, More. -/
namespace Go.Proofs.YtkflanjlnbdkmaaGreatDoor
open Go.ChangeShapes Go.WideShapes Go.ChangeAt Go.RowKit

def RetNn (p : Nat) (n : Int) (w : World) : Ending → World → Prop := fun e w' => ∃ v : Int, e = .returned (.int .i64 v) ∧ 0 ≤ v ∧ v ≤ n ∧ (0 < n → v < n) ∧ SrcOk w' p ∧ w.grownBy w' (some p)
theorem nn_any (p : Nat) (n : Int) (w : World) (h : SrcOk w p) (h0 : 0 ≤ n) (h2 : n ≤ 1000) : Calls Tryz.prog 16 #[.pointer (some ⟨p, 0, none⟩), .int .i64 n] w (RetNn p n w) := by
  by_cases hn : 1 ≤ n
  · refine (n_any p n w h hn (by omega)).mono ?_
    rintro e w' ⟨v, rfl, h1, h2, hs, hg⟩
    exact ⟨v, rfl, h1, by omega, fun _ => by omega, hs, hg⟩
  · refine (n_zero p n w h (by omega) (by omega)).mono ?_
    rintro e w' ⟨v, rfl, h1, h2, hs, hg⟩
    exact ⟨v, rfl, h1, by omega, fun _ => by omega, hs, hg⟩
/-- the call returns a change -/
def RetCg (p : Nat) (w : World) : Ending → World → Prop := fun e w' => ∃ k f t : Int, e = .returned (.agg #[.int .i64 k, .int .i64 f, .int .i64 t]) ∧ SrcOk w' p ∧ w.grownBy w' (some p)
theorem cg_end {p : Nat} {w w0 w' : World} {g : Nat} {k f t : Int} (hg0 : g = w.heap.size) (hk : Blk w' g 29 #[.int .i64 0, .int .i64 0, .int .i64 0]) (hs : SrcOk w' p) (hp : p < w.heap.size) (h1 : Below w.heap.size w w0) (h2 : w0.grownBy w' (some p)) (h3 : w.heap.size ≤ w0.heap.size) :
    Blk (((w'.setCell ⟨g, 0, none⟩ (.int .i64 k)).setCell ⟨g, 1, none⟩ (.int .i64 f)).setCell ⟨g, 2, none⟩ (.int .i64 t)) g 29 #[.int .i64 k, .int .i64 f, .int .i64 t] ∧ RetCg p w (.returned (.agg #[.int .i64 k, .int .i64 f, .int .i64 t])) (((w'.setCell ⟨g, 0, none⟩ (.int .i64 k)).setCell ⟨g, 1, none⟩ (.int .i64 f)).setCell ⟨g, 2, none⟩ (.int .i64 t)) := by
  refine ⟨set3 hk _ _ _, k, f, t, rfl, ?_, ?_⟩
  · have e := fun (X : World) (i : Nat) (u : Value) (h : SrcOk X p) => h.other (grownBy_setCell X g i u) (fun k hk => by injection hk with hk; omega)
    exact e _ _ _ (e _ _ _ (e _ _ _ hs))
  · have hg : w.grownBy w' (some p) := ⟨h2.os.trans h1.os, h2.tape.trans h1.tape, h2.output.trans h1.output, Nat.le_trans h3 h2.size, fun j hj hne => (h2.block j (by omega) hne).trans (h1.block j hj)⟩
    exact ⟨hg.os, hg.tape, hg.output, by simpa using hg.size, fun j hj hne => ((Below.heap_setCell _ _ _ j (by simp; omega)).trans ((Below.heap_setCell _ _ _ j (by simp; omega)).trans (Below.heap_setCell w' _ _ j (by simp; omega)))).trans (hg.block j hj hne)⟩
set_option maxRecDepth 100000 in
set_option maxHeartbeats 4000000 in
theorem change_any (p : Nat) (n : Int) (w : World) (h : SrcOk w p) (h0 : 0 ≤ n) (h2 : n ≤ 900) :
    Calls Tryz.prog 11 #[.pointer (some ⟨p, 0, none⟩), .int .i64 n] w (RetCg p w) := by
  have hp := h.lt
  go_enter Tryz.func11, Tryz.ntmps11
  go_upto_region 1 with fail
  obtain ⟨W0, hW, k0, hb0, hlt0⟩ := boxed3 w 29 (.int .i64 0) (.int .i64 0) (.int .i64 0)
  rw [hW]
  have hs0 := h.kept hb0
  have hsz := hb0.size
  clear hW
  go_wp2_with fail
  refine (nn_any p 10 W0 hs0 (by omega) (by omega)).mono ?_
  rintro e w1 ⟨v, rfl, hv0, hv1, -, hs1, hg1⟩
  have k1 := k0.grown hg1 (fun e => by injection e with e; omega)
  obtain ⟨e0, e1, e2, f0, f1, f2⟩ := k1.threeF
  by_cases hva : v = 0
  · subst hva
    obtain ⟨hk, hret⟩ := cg_end (k := 3) (f := 0) (t := 0) rfl k1 hs1 hp hb0 hg1 hsz
    obtain ⟨q0, q1, q2, _, _, _⟩ := hk.threeF
    have Hret := Lib.hid hret
    clear hret hk k0 k1
    go_wp2_with fail
    refine bodyPost_ret (v := .agg #[.int .i64 3, .int .i64 0, .int .i64 0]) (by simp [results, Tryz.results11, go_sem, q0, q1, q2]) rfl ?_
    exact Hret.out
  · by_cases hvb : v = 1
    · subst hvb
      obtain ⟨hk, hret⟩ := cg_end (k := 4) (f := 0) (t := 0) rfl k1 hs1 hp hb0 hg1 hsz
      obtain ⟨q0, q1, q2, _, _, _⟩ := hk.threeF
      have Hret := Lib.hid hret
      clear hret hk k0 k1
      go_wp2_with fail
      refine bodyPost_ret (v := .agg #[.int .i64 4, .int .i64 0, .int .i64 0]) (by simp [results, Tryz.results11, go_sem, q0, q1, q2]) rfl ?_
      exact Hret.out
    · have hvz : (v == 0) = false := by rw [beq_eq_false_iff_ne]; exact hva
      have hvo : (v == 1) = false := by rw [beq_eq_false_iff_ne]; exact hvb
      by_cases hvc : v = 2
      · have hvt : (v == 2) = true := by rw [beq_iff_eq]; exact hvc
        clear hva hvb hvc
        go_wp2_with fail
        refine (nn_any p 7 w1 hs1 (by omega) (by omega)).mono ?_
        rintro e w2 ⟨x, rfl, hx0, hx1, -, hs2, hg2⟩
        clear hs1
        go_wp2_with fail
        refine (nn_any p (n + 2) w2 hs2 (by omega) (by omega)).mono ?_
        rintro e w3 ⟨y, rfl, hy0, hy1, -, hs3, hg3⟩
        clear hs2
        go_wp2_with fail
        refine (nn_any p (n + 2) w3 hs3 (by omega) (by omega)).mono ?_
        rintro e w4 ⟨z, rfl, hz0, hz1, -, hs4, hg4⟩
        have hg14 := grownBy_trans (grownBy_trans (grownBy_trans hg1 hg2) hg3) hg4
        have k4 := k0.grown hg14 (fun e => by injection e with e; omega)
        obtain ⟨e0, e1, e2, f0, f1, f2⟩ := k4.threeF
        obtain ⟨hk, hret⟩ := cg_end (k := x - 1) (f := y - 1) (t := z - 1) rfl k4 hs4 hp hb0 hg14 hsz
        obtain ⟨q0, q1, q2, _, _, _⟩ := hk.threeF
        have Hret := Lib.hid hret
        clear hret hk k0 k1 k4 hs3
        go_wp2_with fail
        refine bodyPost_ret (v := .agg #[.int .i64 (x - 1), .int .i64 (y - 1), .int .i64 (z - 1)]) (by simp [results, Tryz.results11, go_sem, q0, q1, q2]) rfl ?_
        exact Hret.out
      · have hvt : (v == 2) = false := by rw [beq_eq_false_iff_ne]; exact hvc
        clear hva hvb hvc
        go_wp2_with fail
        refine (nn_any p 2 w1 hs1 (by omega) (by omega)).mono ?_
        rintro e w2 ⟨x, rfl, hx0, hx1, -, hs2, hg2⟩
        clear hs1
        go_wp2_with fail
        refine (nn_any p n w2 hs2 h0 (by omega)).mono ?_
        rintro e w3 ⟨y, rfl, hy0, hy1, -, hs3, hg3⟩
        clear hs2
        go_wp2_with fail
        refine (nn_any p n w3 hs3 h0 (by omega)).mono ?_
        rintro e w4 ⟨z, rfl, hz0, hz1, -, hs4, hg4⟩
        have hg14 := grownBy_trans (grownBy_trans (grownBy_trans hg1 hg2) hg3) hg4
        have k4 := k0.grown hg14 (fun e => by injection e with e; omega)
        obtain ⟨e0, e1, e2, f0, f1, f2⟩ := k4.threeF
        obtain ⟨hk, hret⟩ := cg_end (k := 1 + x) (f := y) (t := z) rfl k4 hs4 hp hb0 hg14 hsz
        obtain ⟨q0, q1, q2, _, _, _⟩ := hk.threeF
        have Hret := Lib.hid hret
        clear hret hk k0 k1 k4 hs3
        go_wp2_with fail
        refine bodyPost_ret (v := .agg #[.int .i64 (1 + x), .int .i64 y, .int .i64 z]) (by simp [results, Tryz.results11, go_sem, q0, q1, q2]) rfl ?_
        exact Hret.out
end Go.Proofs.YtkflanjlnbdkmaaGreatDoor

/- Changes that are undone. Plain words. -/
namespace Go.Proofs.YtkflanjlnbdkmaaGreatDoor
open Go.ChangeShapes Go.WideShapes Go.ChangeAt Go.RowKit

theorem mem_chL {n : Nat} {l : List (Int × Int)} {k f t : Int} {q : Int × Int} : q ∈ chL n l k f t ↔ ∃ a b : Nat, a < chN n k ∧ b < chN n k ∧ chgB l k f t a b = true ∧ q = ((a : Int), (b : Int)) := mem_gridL
theorem hasB_chL {n : Nat} {l : List (Int × Int)} {k f t : Int} {a b : Nat} (ha : a < chN n k) (hb : b < chN n k) : hasB (chL n l k f t) a b = chgB l k f t a b := by
  rw [Bool.eq_iff_iff, hasB_iff, mem_chL]
  constructor
  · rintro ⟨a', b', _, _, h, e⟩
    injection e with e1 e2
    have : a = a' := by omega
    have : b = b' := by omega
    subst a'; subst b'
    exact h
  · exact fun h => ⟨a, b, ha, hb, h, rfl⟩
theorem vld_mem {n : Nat} {l : List (Int × Int)} (hv : Vld n l) {q : Int × Int} (h : q ∈ l) : ∃ a b : Nat, a < n ∧ b < n ∧ q = ((a : Int), (b : Int)) := by
  have := hv.1.2.2 q h
  obtain ⟨x, y⟩ := q
  dsimp only at this
  exact ⟨x.toNat, y.toNat, by omega, by omega, by rw [Int.toNat_of_nonneg this.1, Int.toNat_of_nonneg this.2.2.1]⟩
theorem chk1 {n : Nat} {l : List (Int × Int)} {x y : Nat} (hx : x < n) (hy : y < n) (h : hasB l x y = false) : chkE n l 1 x y = 0 := by
  unfold chkE
  rw [if_neg (by omega), if_neg (by omega), if_neg (by omega), if_neg (by rw [h]; simp), if_neg (by omega)]
theorem chk2 {n : Nat} {l : List (Int × Int)} {x y : Nat} (hx : x < n) (hy : y < n) (h : hasB l x y = true) : chkE n l 2 x y = 0 := by
  unfold chkE
  rw [if_neg (by omega), if_neg (by omega), if_neg (by omega), if_neg (by omega), if_neg (by rw [h]; simp)]
theorem chN1 (n : Nat) : chN n 1 = n := by simp [chN]
theorem chN2 (n : Nat) : chN n 2 = n := by simp [chN]
theorem chN3 (n : Nat) : chN n 3 = n + 1 := by simp [chN]
theorem chN4 (n : Nat) : chN (n + 1) 4 = n := by simp [chN]
theorem chgB_in {l : List (Int × Int)} {x y : Nat} : chgB l 1 x y x y = true := by simp [chgB]
theorem chgB_out {l : List (Int × Int)} {x y : Nat} : chgB l 2 x y x y = false := by simp [chgB]
theorem back_pair {n : Nat} {l : List (Int × Int)} (hv : Vld n l) {x y : Nat} (hx : x < n) (hy : y < n) {k1 k2 : Int} (h : hasB l x y = false ∧ k1 = 1 ∧ k2 = 2 ∨ hasB l x y = true ∧ k1 = 2 ∧ k2 = 1) :
    chkE n l k1 x y = 0 ∧ chN n k1 = n ∧ chkE n (chL n l k1 x y) k2 x y = 0 ∧ chN n k2 = n ∧ chL n (chL n l k1 x y) k2 x y = l ∧ hasB (chL n l k1 x y) x y = (k1 == 1) := by
  have ext : ∀ (k1 k2 : Int), chN n k1 = n → chN n k2 = n → (∀ a b : Nat, a < n → b < n → (chgB (chL n l k1 x y) k2 x y a b = true ↔ hasB l a b = true)) → chL n (chL n l k1 x y) k2 x y = l := fun k1 k2 e1 e2 he =>
    sortedP_ext _ _ (gridR_sorted _ _ _) hv.2 fun q => by
      rw [mem_chL, e2]
      constructor
      · rintro ⟨a, b, ha, hb, h, rfl⟩
        exact hasB_iff.1 ((he a b ha hb).1 h)
      · intro hq
        obtain ⟨a, b, ha, hb, rfl⟩ := vld_mem hv hq
        exact ⟨a, b, ha, hb, (he a b ha hb).2 (hasB_iff.2 hq), rfl⟩
  rcases h with ⟨h, rfl, rfl⟩ | ⟨h, rfl, rfl⟩
  · have hx1 : x < chN n 1 := by rw [chN1]; exact hx
    have hy1 : y < chN n 1 := by rw [chN1]; exact hy
    have hh : hasB (chL n l 1 x y) x y = true := by rw [hasB_chL hx1 hy1]; exact chgB_in
    refine ⟨chk1 hx hy h, chN1 n, chk2 hx hy hh, chN2 n, ext 1 2 (chN1 n) (chN2 n) fun a b ha hb => ?_, hh⟩
    unfold chgB
    rw [hasB_chL (by rw [chN1]; exact ha) (by rw [chN1]; exact hb)]
    unfold chgB
    by_cases e : x = a ∧ y = b
    · obtain ⟨rfl, rfl⟩ := e
      rw [h]; simp
    · have e' : ((x : Int) == (a : Int) && (y : Int) == (b : Int)) = false := by
        rw [Bool.and_eq_false_iff, beq_eq_false_iff_ne, beq_eq_false_iff_ne]; omega
      rw [e']; simp
  · have hx1 : x < chN n 2 := by rw [chN2]; exact hx
    have hy1 : y < chN n 2 := by rw [chN2]; exact hy
    have hh : hasB (chL n l 2 x y) x y = false := by rw [hasB_chL hx1 hy1]; exact chgB_out
    refine ⟨chk2 hx hy h, chN2 n, chk1 hx hy hh, chN1 n, ext 2 1 (chN2 n) (chN1 n) fun a b ha hb => ?_, hh⟩
    unfold chgB
    rw [hasB_chL (by rw [chN2]; exact ha) (by rw [chN2]; exact hb)]
    unfold chgB
    by_cases e : x = a ∧ y = b
    · obtain ⟨rfl, rfl⟩ := e
      rw [h]; simp
    · have e' : ((x : Int) == (a : Int) && (y : Int) == (b : Int)) = false := by
        rw [Bool.and_eq_false_iff, beq_eq_false_iff_ne, beq_eq_false_iff_ne]; omega
      rw [e']; simp
theorem vld_wide {n : Nat} {l : List (Int × Int)} (hv : Vld n l) (hn : n < 40) : Vld (n + 1) l :=
  ⟨⟨by omega, hv.1.2.1, fun p hp => by have := hv.1.2.2 p hp; omega⟩, hv.2⟩
theorem chk3 {n : Nat} {l : List (Int × Int)} (hn : n < 40) : chkE n l 3 0 0 = 0 := by
  unfold chkE
  rw [if_neg (by omega), if_pos (by omega), if_neg (by omega), if_neg (by omega), if_neg (by omega)]
theorem chk4 {n : Nat} {l : List (Int × Int)} : chkE (n + 1) l 4 0 0 = 0 := by
  unfold chkE
  rw [if_neg (by omega), if_pos (by omega), if_neg (by omega), if_neg (by omega), if_neg (by omega)]
theorem last_same {n : Nat} {l : List (Int × Int)} (hv : Vld n l) (hn : n < 40) : chL (n + 1) l 4 0 0 = l := by
  rw [← ch_last (vld_wide hv hn) (by omega)]
  refine List.filter_eq_self.2 fun q hq => ?_
  have := hv.1.2.2 q hq
  have : max q.1 q.2 ≠ ((n + 1 : Nat) : Int) - 1 := by omega
  simp only [Bool.not_eq_true', beq_eq_false_iff_ne, ne_eq]
  exact this
theorem new_att {n : Nat} {l : List (Int × Int)} (hv : Vld n l) (a b : Nat) (h : att l a b) : a ≠ n ∧ b ≠ n := by
  have := att_lt hv.1 h; omega
theorem new_aff {n : Nat} {l : List (Int × Int)} (hv : Vld n l) (hn : n < 40) : affL (n + 1) l [(n : Int)] = [(n : Int)] := by
  have hw := (vld_wide hv hn).1
  unfold affL
  refine sorted_ext _ _ ?_ (by simp) fun x => ?_
  · unfold nodesB
    rw [List.pairwise_map]
    exact ((List.pairwise_lt_range (n := n + 1)).filter _).imp fun {a b} hab => by simpa using hab
  · rw [mem_nodesB, List.mem_singleton]
    constructor
    · rintro ⟨i, hi, h, rfl⟩
      obtain ⟨r, hr, hx⟩ := affB_iff.1 h
      rw [List.mem_singleton] at hr
      subst hr
      obtain ⟨j, i', e, hj, _, e2, hh⟩ := mem_reachL.1 hx
      have h1 : j = n := by omega
      have h2 : i = i' := by omega
      subst h1 h2
      have := reach_least hw (z := fun k => k = j) (fun a b ha hab => absurd ha (new_att hv a b hab).1) rfl i hh
      omega
    · rintro rfl
      exact ⟨n, by omega, aff_root hw (by omega) (by simp), rfl⟩
theorem last_aff {n : Nat} {l : List (Int × Int)} (hv : Vld n l) : affL n l (rtL (n + 1) l 4 0) = [] := by
  unfold affL rtL
  rw [if_pos rfl]
  have e : attackedL l (((n + 1 : Nat) : Int) - 1) = [] := by
    rw [show (((n + 1 : Nat) : Int) - 1) = (n : Int) by omega]
    exact attackedL_out hv.1 (.inr (by omega))
  rw [e]
  unfold nodesB
  have : (List.range n).filter (affB n l []) = [] := List.filter_eq_nil_iff.2 fun i _ => by simp [affB]
  rw [this]; rfl
theorem new_in {n : Nat} {l : List (Int × Int)} (hv : Vld n l) (hn : n < 40) : grL (n + 1) l n = 1 := by
  have hw := (vld_wide hv hn).1
  rcases (gr_inv hw).rng n with g | g | g
  · exact g
  · obtain ⟨a, hat, _⟩ := (gr_inv hw).isOut n g
    exact absurd rfl (new_att hv a n hat).2
  · have := gr_rest hw n (by omega)
    rw [(frB_iff hw).2 ⟨by omega, g, fun a hat => absurd rfl (new_att hv a n hat).2⟩] at this
    cases this
end Go.Proofs.YtkflanjlnbdkmaaGreatDoor

/- States in a world; Apply at them. -/
namespace Go.Proofs.YtkflanjlnbdkmaaGreatDoor
open Go.ChangeShapes Go.WideShapes Go.ChangeAt Go.RowKit

/-- a state lies in w: its pairs and its labels, in blocks from m on -/
structure DyV (w : World) (m : Nat) (l : List (Int × Int)) (G : List Int) (A : Option Addr) (c : Nat) (B : Option Addr) (d : Nat) : Prop where
  rp : RP w A l
  an : A = none → l = [] ∧ c = 0
  ri : RI w B G
  bn : B = none → G = [] ∧ d = 0
  ua : UpA A m
  ub : UpA B m
theorem DyV.below {w w' : World} {m : Nat} {l : List (Int × Int)} {G : List Int} {A : Option Addr} {c : Nat} {B : Option Addr} {d : Nat} (h : DyV w m l G A c B d) (hb : Below w.heap.size w w') : DyV w' m l G A c B d :=
  ⟨h.rp.below hb, h.an, h.ri.below hb, h.bn, h.ua, h.ub⟩
theorem DyV.grown {w w' : World} {m : Nat} {l : List (Int × Int)} {G : List Int} {A : Option Addr} {c : Nat} {B : Option Addr} {d p : Nat} (h : DyV w m l G A c B d) (hg : w.grownBy w' (some p)) (hp : p < m) : DyV w' m l G A c B d :=
  ⟨h.rp.grownD hg fun b o e _ => by have := h.ua b o e; omega, h.an, h.ri.grown hg fun b o e _ => by have := h.ub b o e; omega, h.bn, h.ua, h.ub⟩
theorem DyV.of_own {w : World} {m : Nat} {l : List (Int × Int)} {G : List Int} {A : Option Addr} {c : Nat} {B : Option Addr} {d : Nat} (h : OwnP w m (.slice A l.length c) l) (k : OwnI w m (.slice B G.length d) G) : DyV w m l G A c B d :=
  ⟨(OwnP.form3 h).1, (OwnP.form3 h).2, (OwnI.form3 k).1, (OwnI.form3 k).2, fun b o e => (World.ownsRow.lt h b (by rw [e]; rfl)).1, fun b o e => (World.ownsRow.lt k b (by rw [e]; rfl)).1⟩
/-- the call returns a state, the nodes that are affected, and an error -/
def RetAv (N : Int) (l : List (Int × Int)) (lab af : List Int) (er : Int) (w : World) : Ending → World → Prop := fun e w' => ∃ A c B d F f, e = .returned (.tuple #[.agg #[.int .i64 N, .slice A l.length c, .slice B lab.length d], .slice F af.length f, .int .i64 er]) ∧ DyV w' w.heap.size l lab A c B d ∧ RI w' F af ∧ Below w.heap.size w w'
theorem app_any {n : Nat} {l : List (Int × Int)} (hv : Vld n l) (k f t : Int) (A : Option Addr) (c : Nat) (B : Option Addr) (d : Nat) (W : World) (m : Nat) (h : DyV W m l (lst n (grL n l)) A c B d) (hT : Tab W) :
    Calls Tryz.prog 12 #[.agg #[.int .i64 (n : Int), .slice A l.length c, .slice B (lst n (grL n l)).length d], .agg #[.int .i64 k, .int .i64 f, .int .i64 t]] W (RetAv (apN n l k f t : Nat) (apL n l k f t) (apG n l k f t) (apF n l k f t) (chkE n l k f t) W) := by
  refine (dApply_good A B n l c d k f t W h.rp h.an h.ri h.bn hv hT).mono ?_
  rintro e w' ⟨A', c', B', d', F', f', rfl, ⟨h1, h2, h3⟩, ⟨h4, h5, h6⟩, ⟨h7, _⟩, hb⟩
  exact ⟨A', c', B', d', F', f', rfl, ⟨h1, h2, h4, h5, h3, h6⟩, h7, hb⟩
theorem app_at {n : Nat} {l : List (Int × Int)} (hv : Vld n l) {k f t : Int} (h : chkE n l k f t = 0) {n' : Nat} {l' : List (Int × Int)} {F' : List Int} (e1 : chN n k = n') (e2 : chL n l k f t = l') (e3 : affL (chN n k) (chL n l k f t) (rtL n l k t) = F') (A : Option Addr) (c : Nat) (B : Option Addr) (d : Nat) (W : World) (m : Nat) (hd : DyV W m l (lst n (grL n l)) A c B d) (hT : Tab W) :
    Calls Tryz.prog 12 #[.agg #[.int .i64 (n : Int), .slice A l.length c, .slice B (lst n (grL n l)).length d], .agg #[.int .i64 k, .int .i64 f, .int .i64 t]] W (RetAv (n' : Nat) l' (lst n' (grL n' l')) F' 0 W) := by
  have := app_any hv k f t A c B d W m hd hT
  unfold apG at this
  rw [(ap_ok h).1, (ap_ok h).2.1, (ap_ok h).2.2, h, e3, e1, e2] at this
  exact this
/-- dynamic.New of a good graph -/
theorem new_v {n : Nat} {l : List (Int × Int)} (hv : Vld n l) (A : Option Addr) (c : Nat) (w : World) (hr : RP w A l) (hA : A = none → l = [] ∧ c = 0) (hT : Tab w) :
    Calls Tryz.prog 7 #[.agg #[.int .i64 (n : Int), .slice A l.length c]] w (RetDe (n : Int) l (lst n (grL n l)) 0 w) := by
  have h := dnew_any A n l c w hr hA hv.1.2.1 hT
  have hg : gLb n l = lst n (grL n l) := by unfold gLb; rw [nGn_vld hv, nGl_vld hv, Int.toNat_natCast]
  rw [nGn_vld hv, nGl_vld hv, hv.valE, hg] at h
  exact h
end Go.Proofs.YtkflanjlnbdkmaaGreatDoor
