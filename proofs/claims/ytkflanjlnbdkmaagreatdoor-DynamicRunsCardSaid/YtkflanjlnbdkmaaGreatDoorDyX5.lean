import Derived.Test.YtkflanjlnbdkmaaGreatDoorDyX4
import Derived.Test.YtkflanjlnbdkmaaGreatDoorCat
import Derived.Test.YtkflanjlnbdkmaaGreatDoorG10
/- dynamic.apply. -/
namespace Go.Proofs.YtkflanjlnbdkmaaGreatDoor
open Go.ChangeShapes Go.WideShapes Go.ChangeAt Go.RowKit

theorem dchange_any (A : Option Addr) (n : Nat) (l : List (Int × Int)) (c : Nat) (k f t : Int) (base : Nat) (w : World) (hown : OwnP w base (.slice A l.length c) l) (hbase : base ≤ w.heap.size) (hvl : Vld n l) (hk : chkE n l k f t = 0) :
    Calls Tryz.prog 43 #[.agg #[.int .i64 (n : Int), .slice A l.length c], .agg #[.int .i64 k, .int .i64 f, .int .i64 t]] w (RetCh base (.slice A l.length c) (chN n k : Nat) (chL n l k f t) (rtD n l k t) w) := by
  rcases chk_kind hk with ⟨⟨rfl, _⟩ | ⟨rfl, _⟩, _⟩ | ⟨⟨rfl, _⟩ | ⟨rfl, h0⟩, rfl, rfl⟩
  · have := dchange1_any A n l c f t base w hown hbase hvl hk
    rw [show chN n 1 = n by simp [chN], show rtD n l 1 t = [t] by simp [rtD]]
    exact this
  · have := dchange2_any A n l c f t base w hown hbase hvl hk
    rw [show chN n 2 = n by simp [chN], show rtD n l 2 t = [t] by simp [rtD]]
    exact this
  · have := dchange3_any A n l c 0 0 base w hown hvl hk
    rw [show chN n 3 = n + 1 by simp [chN], show rtD n l 3 0 = [(n : Int)] by simp [rtD]]
    exact this
  · obtain ⟨m, rfl⟩ : ∃ m, n = m + 1 := ⟨n - 1, by omega⟩
    have := dchange4_any A m l c 0 0 base w hown hvl hk
    rw [show chN (m + 1) 4 = m by simp [chN], ← rtT_all]
    exact this
theorem boxed333 (w : World) (t u s : TypeId) (x y z x' y' z' a b d : Value) : ∃ W0, (((w.alloc (.cells #[x, y, z] t)).alloc (.cells #[x', y', z'] u)).alloc (.cells #[a, b, d] s)) = W0 ∧ Blk W0 w.heap.size t #[x, y, z] ∧ Blk W0 (w.heap.size + 1) u #[x', y', z'] ∧ Blk W0 (w.heap.size + 1 + 1) s #[a, b, d] ∧ Below w.heap.size w W0 := by
  have h3 := Blk.new ((w.alloc (.cells #[x, y, z] t)).alloc (.cells #[x', y', z'] u)) s #[a, b, d]
  have h2 := (Blk.new (w.alloc (.cells #[x, y, z] t)) u #[x', y', z']).alloc (.cells #[a, b, d] s)
  exact ⟨_, rfl, ((Blk.new w t #[x, y, z]).alloc _).alloc _, by simpa using h2, by simpa using h3, (((Below.refl _ _).alloc (Nat.le_refl _) _).alloc (by simp) _).alloc (by simp; omega) _⟩
/-- the address lies in blocks from m on -/
def UpA (A : Option Addr) (m : Nat) : Prop := ∀ b o, A = some ⟨b, o, none⟩ → m ≤ b
/-- the call returns a state, the nodes that are affected, and an error -/
def RetAp (N : Int) (l : List (Int × Int)) (lab af : List Int) (er : Int) (w : World) : Ending → World → Prop := fun e w' => ∃ A c B d F f, e = .returned (.tuple #[.agg #[.int .i64 N, .slice A l.length c, .slice B lab.length d], .slice F af.length f, .int .i64 er]) ∧ (RP w' A l ∧ (A = none → l = [] ∧ c = 0) ∧ UpA A w.heap.size) ∧ (RI w' B lab ∧ (B = none → lab = [] ∧ d = 0) ∧ UpA B w.heap.size) ∧ (RI w' F af ∧ UpA F w.heap.size) ∧ Below w.heap.size w w'
theorem OwnP.form3 {w : World} {b : Nat} {A : Option Addr} {c : Nat} {l : List (Int × Int)} (h : OwnP w b (.slice A l.length c) l) : RP w A l ∧ (A = none → l = [] ∧ c = 0) := by
  obtain ⟨A', c', e, h1, h2⟩ := OwnP.form2 h
  injection e with e1 _ e3
  subst e1 e3
  exact ⟨h1, h2⟩
theorem OwnI.form3 {w : World} {b : Nat} {A : Option Addr} {c : Nat} {l : List Int} (h : OwnI w b (.slice A l.length c) l) : RI w A l ∧ (A = none → l = [] ∧ c = 0) := by
  obtain ⟨A', c', e, h1, h2⟩ := OwnI.form2 h
  injection e with e1 _ e3
  subst e1 e3
  exact ⟨h1, h2⟩
/-- the nodes reached from the first k roots -/
def catR (n : Nat) (l : List (Int × Int)) (rs : List Int) : List Int := rs.flatMap fun r => reachL n l r
theorem catR_succ {n : Nat} {l : List (Int × Int)} {rs : List Int} {k : Nat} (h : k < rs.length) : catR n l (rs.take (k + 1)) = catR n l (rs.take k) ++ reachL n l rs[k] := by
  unfold catR; rw [List.take_succ_eq_append_getElem h, List.flatMap_append]; simp
theorem reachL_len (n : Nat) (l : List (Int × Int)) (r : Int) : (reachL n l r).length ≤ n := by
  unfold reachL; split
  · exact nodesB_length _ _
  · simp
theorem catR_len (n : Nat) (l : List (Int × Int)) : ∀ rs : List Int, (catR n l rs).length ≤ rs.length * n
  | [] => by simp [catR]
  | r :: rs => by
    have := catR_len n l rs
    have h := reachL_len n l r
    unfold catR at *
    rw [List.flatMap_cons, List.length_append, List.length_cons, Nat.succ_mul]
    omega
theorem catR_aff (n : Nat) (l : List (Int × Int)) (rs : List Int) : Go.Lib.compact (sortL (catR n l rs)) = affL n l rs := compact_sort fun x => by
  unfold catR
  rw [List.mem_flatMap]
  constructor
  · rintro ⟨r, hr, hx⟩
    obtain ⟨j, i, _, _, hi, rfl, _⟩ := mem_reachL.1 hx
    exact ⟨i, hi, affB_iff.2 ⟨r, hr, hx⟩, rfl⟩
  · rintro ⟨j, _, h, rfl⟩
    exact affB_iff.1 h
theorem OwnI.cut {w : World} {b : Nat} {A : Option Addr} {c m : Nat} {l : List Int} (h : OwnI w b (.slice A l.length c) l) (hm : m ≤ l.length) (h0 : 0 < l.length) : OwnI w b (.slice A m c) (l.take m) := by
  rcases h.2 with ⟨e, h⟩ | ⟨g, cap, cur, e, hbg, hg, hle, hmx, hs, ht⟩
  · omega
  · injection e with e1 _ e3
    subst e1 e3
    have hl : (l.take m).length = m := by rw [List.length_take]; omega
    refine ⟨by simp, .inr ⟨g, c, cur, by rw [hl], hbg, hg, by rw [hl]; omega, hmx, hs, ?_⟩⟩
    rw [hl, Nat.mul_one]
    rw [Nat.mul_one] at ht
    have : cur.toList.take m = (cur.toList.take l.length).take m := by rw [List.take_take]; congr 1; omega
    rw [this, ht, List.map_take]
theorem RP.grownD {w w' : World} {A : Option Addr} {l : List (Int × Int)} {p : Nat} (h : RP w A l) (hg : w.grownBy w' (some p)) (hne : ∀ b o, A = some ⟨b, o, none⟩ → 0 < l.length → b ≠ p) : RP w' A l := by
  by_cases hl : 0 < l.length
  · exact h.grown hg fun b o e => hne b o e hl
  · intro k hk; omega
theorem rtD_len {n : Nat} {l : List (Int × Int)} (hl : l.length ≤ 1600) (k t : Int) : (rtD n l k t).length ≤ 1600 := by
  unfold rtD
  split
  · exact Nat.le_trans (List.length_filter_le _ _) (Nat.le_trans (attacked_len l _) hl)
  · split <;> simp
theorem lab_cut {n m : Nat} {G : Nat → Int} (h : m ≤ n + 1) : (lst n G ++ [3]).take m = lst m (fun i => if i < n then G i else 3) := by
  have e : lst n G ++ [3] = lst (n + 1) (fun i => if i < n then G i else 3) := by
    rw [lst_succ, if_neg (by omega)]
    congr 1
    exact lst_congr fun i hi => by rw [if_pos hi]
  rw [e]
  unfold lst
  rw [← List.map_take, List.take_range]
  congr 2
  omega
end Go.Proofs.YtkflanjlnbdkmaaGreatDoor

/- dynamic.apply: the walk. -/
namespace Go.Proofs.YtkflanjlnbdkmaaGreatDoor
open Go.ChangeShapes Go.WideShapes Go.ChangeAt Go.RowKit

theorem chN_le1 (n : Nat) (k : Int) : chN n k ≤ n + 1 := by
  unfold chN; split
  · omega
  · split <;> omega
set_option maxRecDepth 100000 in
set_option maxHeartbeats 2000000 in
theorem dapply_bad (A B : Option Addr) (n : Nat) (l : List (Int × Int)) (lab : List Int) (c d : Nat) (k f t : Int) (w : World) (hr : RP w A l) (hvl : Vld n l) (hk : chkE n l k f t ≠ 0) :
    Calls Tryz.prog 28 #[.agg #[.int .i64 (n : Int), .slice A l.length c, .slice B lab.length d], .agg #[.int .i64 k, .int .i64 f, .int .i64 t]] w (RetAp 0 [] [] [] (chkE n l k f t) w) := by
  have href := fun W (h : RP W A l) => drefused_any A n l c k f t W h hvl
  obtain ⟨E, hE⟩ : ∃ E, chkE n l k f t = E := ⟨_, rfl⟩
  rw [hE] at href hk ⊢
  have hd : (E != 0) = true := by rw [bne_iff_ne]; exact hk
  clear hE hk
  go_enter Tryz.func28, Tryz.ntmps28
  go_upto_region 1 with fail
  obtain ⟨W0, hW, k0, k1, k2, hb0⟩ := boxed333 w 27 29 27 (.int .i64 (n : Int)) (.slice A l.length c) (.slice B lab.length d) (.int .i64 k) (.int .i64 f) (.int .i64 t) (.int .i64 0) (.slice none 0 0) (.slice none 0 0)
  rw [hW]
  have Href := Lib.hid (href W0 (hr.below hb0))
  obtain ⟨c0, c1, c2, _, _, _⟩ := k0.threeF
  obtain ⟨d0, d1, d2, _, _, _⟩ := k1.threeF
  clear hW hr href
  go_wp2_with fail
  refine Href.out.mono ?_
  rintro e w1 ⟨rfl, hb1⟩
  have k21 := k2.below hb1 k2.lt
  have hbb := endB hb0 hb1
  obtain ⟨e0, e1, e2, f0, f1, f2⟩ := k21.threeF
  clear Href
  go_wp2_with fail
  have hk' := set3 k21 (.int .i64 0) (.slice none 0 0) (.slice none 0 0)
  obtain ⟨e0, e1, e2, _, _, _⟩ := hk'.threeF
  refine bodyPost_ret (v := .tuple #[.agg #[.int .i64 0, .slice none 0 0, .slice none 0 0], .slice none 0 0, .int .i64 E]) (by simp [results, Tryz.results28, go_sem, e0, e1, e2]) rfl ?_
  exact ⟨none, 0, none, 0, none, 0, rfl, ⟨RP.nil _ _, (fun _ => ⟨rfl, rfl⟩), fun _ _ e => by cases e⟩, ⟨RI.nil _ _, (fun _ => ⟨rfl, rfl⟩), fun _ _ e => by cases e⟩, ⟨RI.nil _ _, fun _ _ e => by cases e⟩, below_set3 hbb (by omega) _ _ _⟩
set_option maxRecDepth 100000 in
set_option maxHeartbeats 8000000 in
theorem dapply_ok (A B : Option Addr) (n : Nat) (l : List (Int × Int)) (c d : Nat) (k f t : Int) (w : World) (hr : RP w A l) (hA : A = none → l = [] ∧ c = 0) (hi : RI w B (lst n (grL n l))) (hB : B = none → lst n (grL n l) = [] ∧ d = 0) (hvl : Vld n l) (hT : Tab w) (hk : chkE n l k f t = 0) :
    Calls Tryz.prog 28 #[.agg #[.int .i64 (n : Int), .slice A l.length c, .slice B (lst n (grL n l)).length d], .agg #[.int .i64 k, .int .i64 f, .int .i64 t]] w
      (RetAp (chN n k : Nat) (chL n l k f t) (lst (chN n k) (grL (chN n k) (chL n l k f t))) (affL (chN n k) (chL n l k f t) (rtL n l k t)) 0 w) := by
  have hl := hvl.1.2.1
  have hn40 := hvl.1.1
  have hv' := ch_vld hn40 hk
  have hl16' := len_of_vld hv'
  have hn40' := hv'.1.1
  have hn'1 := chN_le1 n k
  have hrl := rtD_len (n := n) (len_of_vld hvl) k t
  have href := fun W (h : RP W A l) => drefused_any A n l c k f t W h hvl
  rw [hk] at href
  have hlabl : (lst n (grL n l)).length ≤ 100000 := by rw [lst_length]; omega
  have hcop := fun W (h : RP W A l) (h2 : RI W B (lst n (grL n l))) => dcopied_any A B n l (lst n (grL n l)) c d W h hA hl h2 hB hlabl
  have hwk := wk_start hvl.1 hk
  have haff : affB (chN n k) (chL n l k f t) (rtD n l k t) = affB (chN n k) (chL n l k f t) (rtL n l k t) := aff_rtD (fun e => by
    subst e
    rcases chk_kind hk with ⟨⟨h, _⟩ | ⟨h, _⟩, _⟩ | ⟨⟨h, _⟩ | ⟨_, h⟩, _⟩
    · omega
    · omega
    · omega
    · simp [chN]; omega)
  have haffL : affL (chN n k) (chL n l k f t) (rtD n l k t) = affL (chN n k) (chL n l k f t) (rtL n l k t) := by unfold affL; rw [haff]
  have hlabZ : labZ n l (chN n k) (chL n l k f t) (rtL n l k t) = setQ (affL (chN n k) (chL n l k f t) (rtL n l k t)) 3 (fun i => if i < n then grL n l i else 3) := rfl
  have hchg := fun A2 c2 W (h : OwnP W w.heap.size (.slice A2 l.length c2) l) (hb : w.heap.size ≤ W.heap.size) => dchange_any A2 n l c2 k f t w.heap.size W h hb hvl hk
  rw [hlabZ] at hwk
  have hcut := lab_cut (G := grL n l) hn'1
  obtain ⟨AF, hAF⟩ : ∃ AF, affL (chN n k) (chL n l k f t) (rtL n l k t) = AF := ⟨_, rfl⟩
  have hafn := hwk.inr
  have hafl : AF.length ≤ 40 := by rw [← hAF]; exact Nat.le_trans (nodesB_length _ _) hn40'
  have hcat := catR_aff (chN n k) (chL n l k f t) (rtD n l k t)
  rw [haffL, hAF] at hcat
  rw [hAF] at hwk hafn ⊢
  have hcatl := catR_len (chN n k) (chL n l k f t)
  have hlen0 : (lst n (grL n l)).length = n := lst_length _ _
  have htab : 0 < w.heap.size := lt_of_cell (hT 0 (by omega))
  have Hcatl := Lib.hid hcatl; have Hwk := Lib.hid hwk; have Hcat := Lib.hid hcat; have Hcut := Lib.hid hcut; have Hv' := Lib.hid hv'; have Hchg := Lib.hid hchg; have Hafn := Lib.hid hafn
  clear hAF haff haffL hlabZ hwk hcat hcut hcatl hk hv' hchg hvl hafn
  generalize chN n k = n' at *
  generalize chL n l k f t = l' at *
  generalize rtD n l k t = rs at *
  generalize rtL n l k t = rs2 at *
  obtain ⟨G0, hG0⟩ : ∃ G0, lst n (grL n l) = G0 := ⟨_, rfl⟩
  rw [hG0] at hi hB hlabl hcop hlen0 Hcut ⊢
  have HLen0 := Lib.hid hlen0
  clear hG0 hlen0
  go_enter Tryz.func28, Tryz.ntmps28
  go_upto_region 1 with fail
  obtain ⟨W0, hW, k0, k1, k2, hb0⟩ := boxed333 w 27 29 27 (.int .i64 (n : Int)) (.slice A l.length c) (.slice B G0.length d) (.int .i64 k) (.int .i64 f) (.int .i64 t) (.int .i64 0) (.slice none 0 0) (.slice none 0 0)
  rw [hW]
  have hr0 := hr.below hb0
  have hi0 := hi.below hb0
  have hT0 := hT.below hb0
  have Href := Lib.hid (href W0 hr0)
  obtain ⟨c0, c1, c2, _, _, _⟩ := k0.threeF
  obtain ⟨d0, d1, d2, _, _, _⟩ := k1.threeF
  clear hW hr href hi hT
  go_wp2_with fail
  refine Href.out.mono ?_
  rintro e w1 ⟨rfl, hb1⟩
  have k01 := k0.below hb1 k0.lt
  have k11 := k1.below hb1 k1.lt
  have k21 := k2.below hb1 k2.lt
  have hbb1 := endB hb0 hb1
  have hT1 := hT0.below hb1
  obtain ⟨c0, c1, c2, _, _, _⟩ := k01.threeF
  obtain ⟨d0, d1, d2, _, _, _⟩ := k11.threeF
  have Hcop := Lib.hid (hcop w1 (hr0.below hb1) (hi0.below hb1))
  clear Href hr0 hi0 hT0 hb0 hb1 k0 k1 k2 hcop
  go_wp2_with fail
  refine Hcop.out.mono ?_
  rintro e w2 ⟨A2, c2', B2, d2', rfl, hop2, hoi2, hb2⟩
  clear Hcop
  go_upto_region 5 with fail
  obtain ⟨W3, hW3, k83, hb3, hlt3⟩ := boxed3 w2 27 (.int .i64 (n : Int)) (.slice A2 l.length c2') (.slice B2 G0.length d2')
  rw [hW3]
  have k13 := k11.below (hb2.trans (hb3.mono hb2.size)) k11.lt
  have k23 := k21.below (hb2.trans (hb3.mono hb2.size)) k21.lt
  have hbb3 := endB (endB hbb1 hb2) hb3
  have hT3 := (hT1.below hb2).below hb3
  have hop3 := (hop2.below hb3).mono hbb1.size
  have hoi3 := OwnI.below hoi2 hb3
  have hkA : ∀ k, (Value.slice A2 l.length c2').ownBlock = some k → w1.heap.size ≤ k ∧ k < w2.heap.size := fun k e => World.ownsRow.lt hop2 k e
  have hapart := OwnI.apartP hoi2 hop2
  have Hch := Lib.hid (Hchg.out A2 c2' W3 hop3 hbb3.size)
  obtain ⟨c0, c1, c2, _, _, _⟩ := k83.threeF
  obtain ⟨d0, d1, d2, _, _, _⟩ := k13.threeF
  have hC1 : w.heap.size + 1 + 1 < w1.heap.size := k21.lt
  have hs12 := hb2.size
  have hs23 := hb3.size
  have hsw1 := hbb1.size
  clear hW3 k11 k21 hT1 hop2 hoi2 hb2 hb3 hop3 hbb1 Hchg k01
  go_wp2_with fail
  refine Hch.out.mono ?_
  rintro e w4 ⟨A4, c4, B4, d4, rfl, hop4, hoi4, hg4⟩
  have hneB : ∀ x, x < w1.heap.size ∨ w2.heap.size ≤ x → some x ≠ (Value.slice A2 l.length c2').ownBlock := fun x hx e => by have := hkA x e.symm; omega
  have k14 := k13.grown hg4 (hneB _ (by omega))
  have k24 := k23.grown hg4 (hneB _ (by omega))
  have k84 := k83.grown hg4 (hneB _ (by omega))
  have hoi4' : OwnI w4 w1.heap.size (.slice B2 G0.length d2') G0 := World.ownsRow.kept hoi3 hg4 hapart
  have hT4 : Tab w4 := fun j hj => hg4.cell (hT3 j hj) (hneB _ (by show 0 < _ ∨ _; omega))
  have hbb4 : Below w.heap.size w w4 := ⟨hg4.os.trans hbb3.os, hg4.tape.trans hbb3.tape, hg4.output.trans hbb3.output, Nat.le_trans hbb3.size hg4.size, fun j hj => (hg4.block j (by omega) (hneB _ (by omega))).trans (hbb3.block j hj)⟩
  obtain ⟨hrB2, hnB2⟩ := OwnI.form3 hoi4'
  obtain ⟨hrA4, hnA4⟩ := OwnP.form3 hop4
  obtain ⟨hrB4, hnB4⟩ := OwnI.form3 hoi4
  have hs34 := hg4.size
  have hupA : UpA A4 w.heap.size := fun b o e => (World.ownsRow.lt hop4 b (by rw [e]; rfl)).1
  have hneR : ∀ b o, A4 = some ⟨b, o, none⟩ → b ≠ w.heap.size + 1 + 1 := fun b o e h => hop4.ne k24 (by decide) (by rw [e, ← h]; rfl)
  clear Hch k13 k23 k83 hT3 hapart hg4 hbb3 hoi3 hoi4' hoi4 hkA hneB k14 c0 c1 c2 d0 d1 d2
  go_upto_region 6 with fail
  obtain ⟨W5, hW5, k95, hb5⟩ : ∃ W5, w4.alloc (.cells #[.int .i64 (n' : Int), .slice A4 l'.length c4] 24) = W5 ∧ Blk W5 w4.heap.size 24 #[.int .i64 (n' : Int), .slice A4 l'.length c4] ∧ Below w4.heap.size w4 W5 := ⟨_, rfl, Blk.new _ _ _, newB _ _⟩
  rw [hW5]
  have k25 := k24.below hb5 k24.lt
  have k85 := k84.below hb5 k84.lt
  have hT5 := hT4.below hb5
  have hbb5 := endB hbb4 hb5
  have hrB5 := hrB2.below hb5
  have hrA5 := hrA4.below hb5
  have hrR5 := hrB4.below hb5
  have hs45 := hb5.size
  have h9lt := k95.lt
  clear hW5 k24 k84 hT4 hbb4 hrB2 hrA4 hrB4 hb5
  have hn'0 : (0 : Int) ≤ (n' : Int) := by omega
  refine wp_region_textB [2, 3, 4] (fun w' => Below W5.heap.size W5 w') (fun _ => True) (by kernel_rfl) (by kernel_rfl) (by kernel_rfl) (Below.refl _ _).drew trivial ?_
  repeat (first
    | (refine TxtBL.skip (by rfl) ?_; simp only [Act.put, List.setIfInBounds_toArray, List.set_cons_zero, List.set_cons_succ])
    | (refine TxtBL.take (by rfl) (by rfl) ?_; apply Exists.intro; refine ⟨fun w1 hS1 => ?_, ?_⟩; (focus ((obtain ⟨g0, g1, g2, _, _, _⟩ := (k85.below hS1 k85.lt).threeF); (obtain ⟨g3, g4, _, _⟩ := (k95.below hS1 k95.lt).two); go_simp; with_reducible rfl)); simp only [Act.put, List.setIfInBounds_toArray, List.set_cons_zero, List.set_cons_succ])
    | (refine TxtBL.takeE (by rfl) (by rfl) ?_; apply Exists.intro; refine ⟨fun w1 hS1 => ?_, ?_⟩; (focus ((obtain ⟨g0, g1, g2, _, _, _⟩ := (k85.below hS1 k85.lt).threeF); (obtain ⟨g3, g4, _, _⟩ := (k95.below hS1 k95.lt).two); go_simp; with_reducible rfl)); simp only [Act.put, List.setIfInBounds_toArray, List.set_cons_zero, List.set_cons_succ]))
  refine TxtBL.value (fun u => ∃ q, u = Value.slice (some ⟨q, 0, none⟩) 1 1) (fun u w' => ∃ q, u = Value.slice (some ⟨q, 0, none⟩) 1 1 ∧ RI w' (some ⟨q, 0, none⟩) [3]) (by rfl) (by rfl) ⟨_, 0, rfl⟩ (fun w6 hS1 hJ1 => ?_) ?_
  · exact ⟨.slice (some ⟨w6.heap.size, 0, none⟩) 1 1, w6.alloc (.cells #[.int .i64 3] 3), by go_simp, hS1.alloc hS1.size _, ⟨_, rfl⟩, _, rfl, (own_one w6 3).ri⟩
  rintro v36 ⟨q36, rfl⟩
  simp only [Act.put, List.setIfInBounds_toArray, List.set_cons_zero, List.set_cons_succ]
  refine TxtBL.value (fun u => ∃ q, u = Value.slice (some ⟨q, 0, none⟩) 2 2) (fun u w' => ∃ q, u = Value.slice (some ⟨q, 0, none⟩) 2 2 ∧ Blk w' q 25 #[.slice B2 G0.length d2', .slice (some ⟨q36, 0, none⟩) 1 1] ∧ RI w' (some ⟨q36, 0, none⟩) [3]) (by rfl) (by rfl) ⟨_, 0, rfl⟩ (fun w6 hS1 hJ1 => ?_) ?_
  · obtain ⟨q, e, hri⟩ := hJ1
    injection e with e; injection e with e; injection e with e _ _; subst e
    exact ⟨.slice (some ⟨w6.heap.size, 0, none⟩) 2 2, w6.alloc (.cells #[.slice B2 G0.length d2', .slice (some ⟨q36, 0, none⟩) 1 1] 25), by go_simp, hS1.alloc hS1.size _, ⟨_, rfl⟩, _, rfl, Blk.new _ _ _, hri.below (newB _ _)⟩
  rintro v37 ⟨q37, rfl⟩
  simp only [Act.put, List.setIfInBounds_toArray, List.set_cons_zero, List.set_cons_succ]
  refine TxtBL.call (f := 44) (args := #[.slice (some ⟨q37, 0, none⟩) 2 2]) (fun u => ∃ gL cL, n + 1 ≤ cL ∧ cL ≤ maxLen ∧ u = Value.slice (some ⟨gL, 0, none⟩) (n + 1) cL) (fun u w' => OwnI w' W5.heap.size u (G0 ++ [3])) (by rfl) (by rfl) ⟨_, 0, n + 1, by omega, by show n + 1 ≤ 9223372036854775807; omega, rfl⟩ (fun w6 hS1 hJ1 => by go_simp) (fun w6 hS1 hJ1 => ?_) ?_
  · obtain ⟨q, e, hblk, hri⟩ := hJ1
    injection e with e; injection e with e; injection e with e _ _; subst e
    refine (concat2_any q37 B2 (some ⟨q36, 0, none⟩) G0 [3] d2' 1 w6 hblk (hrB5.below hS1) hri hnB2 (by simp) (by omega) (by simp) (by simp)).mono ?_
    rintro e w' ⟨A7, c7, rfl, ho, _, _, hb⟩
    have hlen : (G0 ++ [3]).length = n + 1 := by rw [List.length_append, HLen0.out]; rfl
    rcases ho.2 with ⟨e, h⟩ | ⟨gL, cap, cur, e, _, _, hle, hmx, _, _⟩
    · omega
    · injection e with e1 _ e3
      subst e1 e3
      exact ⟨_, rfl, hS1.trans (hb.mono hS1.size), ⟨gL, c7, by omega, hmx, by rw [hlen]⟩, ho.mono hS1.size⟩
  rintro v38 ⟨gL, cL, hcL, hcm, rfl⟩
  have hncL : (n' : Int) ≤ (cL : Int) := by omega
  simp only [Act.put, List.setIfInBounds_toArray, List.set_cons_zero, List.set_cons_succ]
  repeat (first
    | (refine TxtBL.skip (by rfl) ?_; simp only [Act.put, List.setIfInBounds_toArray, List.set_cons_zero, List.set_cons_succ])
    | (refine TxtBL.take (by rfl) (by rfl) ?_; apply Exists.intro; refine ⟨fun w1 hS1 => ?_, ?_⟩; (focus ((obtain ⟨g0, g1, g2, _, _, _⟩ := (k85.below hS1 k85.lt).threeF); (obtain ⟨g3, g4, _, _⟩ := (k95.below hS1 k95.lt).two); go_simp; with_reducible rfl)); simp only [Act.put, List.setIfInBounds_toArray, List.set_cons_zero, List.set_cons_succ])
    | (refine TxtBL.takeE (by rfl) (by rfl) ?_; apply Exists.intro; refine ⟨fun w1 hS1 => ?_, ?_⟩; (focus ((obtain ⟨g0, g1, g2, _, _, _⟩ := (k85.below hS1 k85.lt).threeF); (obtain ⟨g3, g4, _, _⟩ := (k95.below hS1 k95.lt).two); go_simp; with_reducible rfl)); simp only [Act.put, List.setIfInBounds_toArray, List.set_cons_zero, List.set_cons_succ]))
  refine TxtBL.nil (fun w6 hS6 hoL => ?_)
  have hownL : OwnF w6 W5.heap.size (some ⟨gL, 0, none⟩) cL n' (fun i => if i < n then grL n l i else 3) := by
    have hlen : (G0 ++ [3]).length = n + 1 := by rw [List.length_append, HLen0.out]; rfl
    have h := OwnI.cut (l := G0 ++ [3]) (by rw [hlen]; exact hoL) (m := n') (by omega) (by omega)
    rw [Hcut.out] at h
    exact h
  have k26 := k25.below hS6 k25.lt
  have k96 := k95.below hS6 k95.lt
  have hT6 := hT5.below hS6
  have hbb6 := endB hbb5 hS6
  have hrA6 := hrA5.below hS6
  have hrR6 := hrR5.below hS6
  have hs56 := hS6.size
  have HownL := Lib.hid hownL
  have hAlt : ∀ b o, A4 = some ⟨b, o, none⟩ → 0 < l'.length → b < W5.heap.size := fun b o e hl => hrA5.lt e hl
  clear k85 k95 k25 hT5 hbb5 hrA5 hrR5 hS6 hoL hownL hrB5 Hcut HLen0

  go_wp2_with fail
  go_loopw [12, 44] (fun v t wr => ∃ (j : Nat) (A' : Option Addr) (c' : Nat), j ≤ rs.length ∧ t = .int .i64 j ∧ v = .slice A' (catR n' l' (rs.take j)).length c' ∧ OwnI wr w6.heap.size (.slice A' (catR n' l' (rs.take j)).length c') (catR n' l' (rs.take j)) ∧ Below w6.heap.size w6 wr) (fun _ t _ => rs.length - (intOf t).toNat)
  case atStart => exact ⟨0, none, 0, Nat.zero_le _, rfl, rfl, OwnI.nil _ _, Below.refl _ _⟩
  case round =>
    obtain ⟨j, A7, c7, hj, rfl, rfl, ho7, hb7⟩ := hrel
    have Ho7 := Lib.hid ho7
    have hcl7 : (catR n' l' (rs.take j)).length ≤ 64000 := by
      have := Hcatl.out (rs.take j)
      have h1 : (rs.take j).length ≤ 1600 := by rw [List.length_take]; omega
      have : (rs.take j).length * n' ≤ 1600 * 40 := Nat.mul_le_mul h1 (by omega)
      omega
    have k97 := k96.below hb7 k96.lt
    have hT7 := hT6.below hb7
    obtain ⟨e0, e1, _, _⟩ := k97.two
    have hs67 := hb7.size
    clear ho7
    by_cases hlt : j < rs.length
    case neg =>
      have hall : rs.take j = rs := List.take_of_length_le (by omega)
      rw [hall] at Ho7 hcl7 ⊢
      have Hsort := Lib.hid (sortI_any A7 _ c7 w6.heap.size wr Ho7.out (by omega))
      have hsl := sortL_length (catR n' l' rs)
      obtain ⟨SL, hSL⟩ : ∃ SL, sortL (catR n' l' rs) = SL := ⟨_, rfl⟩
      rw [hSL] at Hsort hsl Hcat
      obtain ⟨CR, hCR⟩ : ∃ CR, (catR n' l' rs).length = CR := ⟨_, rfl⟩
      rw [hCR] at Hsort hsl hcl7 ⊢
      subst hsl
      have hs78 := hs67
      clear hall hSL hCR Ho7 hj
      go_wp2_with fail
      refine Hsort.out.mono ?_
      rintro e w8 ⟨rfl, ho8, hg8⟩
      have Hcmp := Lib.hid (compactI_any A7 SL c7 w6.heap.size w8 ho8 (by omega))
      rw [Hcat.out] at Hcmp
      have hb8 : Below w6.heap.size w6 w8 := hb7.grown hg8 hs67 (fun k hk => (World.ownsRow.lt ho8 k hk).1)
      clear Hsort ho8 hg8 hb7
      go_wp2_with fail
      refine Hcmp.out.mono ?_
      rintro e w9 ⟨rfl, ho9, hg9⟩
      have hb9 : Below w6.heap.size w6 w9 := hb8.grown hg9 hb8.size (fun k hk => (World.ownsRow.lt ho9 k hk).1)
      have k99 := k96.below hb9 k96.lt
      have k29 := k26.below hb9 k26.lt
      have hT9 := hT6.below hb9
      have hr9 := hrA6.below hb9
      have hL9 := HownL.out.below hb9
      obtain ⟨hri9, hni9⟩ := OwnI.form3 ho9
      have hbb9 := endB hbb6 hb9
      have hs69 := hb9.size
      have hupF : ∀ b o, A7 = some ⟨b, o, none⟩ → w6.heap.size ≤ b := fun b o e => (World.ownsRow.lt ho9 b (by rw [e]; rfl)).1
      have HL9 := Lib.hid hL9; have Hri9 := Lib.hid hri9; have Hr9 := Lib.hid hr9; have HT9 := Lib.hid hT9
      have hk96 := k96.lt
      have hk26 := k26.lt
      have hgLs : W5.heap.size ≤ gL ∧ gL < w6.heap.size := World.ownsRow.lt HownL.out gL rfl
      have HgLs := Lib.hid hgLs
      clear Hcmp hg9 hb8 hb9 ho9 k97 k96 k26 hT6 hT7 hrA6 hrR6 HownL hL9 hri9 hr9 hT9 hbb6 Hcat e0 e1 Hcatl hcl7
      go_wp2_with fail
      obtain ⟨wo, hwo⟩ : ∃ wo, wo = wr := ⟨_, rfl⟩
      subst hwo
      go_loopw [60] (fun t wr => ∃ j : Nat, j ≤ AF.length ∧ t = .int .i64 j ∧ OwnF wr W5.heap.size (some ⟨gL, 0, none⟩) cL n' (setQ (AF.take j) 3 (fun i => if i < n then grL n l i else 3)) ∧ w9.grownBy wr (some gL)) (fun t _ => AF.length - (intOf t).toNat)
      case atStart => exact ⟨0, Nat.zero_le _, rfl, by rw [List.take_zero, setQ_nil]; exact HL9.out, grownBy_refl _ _⟩
      case round =>
        obtain ⟨j, hj, rfl, hL, hg⟩ := hrel
        have HL := Lib.hid hL; have Hg := Lib.hid hg
        clear hL
        by_cases hlt : j < AF.length
        case neg =>
          have hall : AF.take j = AF := List.take_of_length_le (by omega)
          rw [hall] at HL
          have hri : RI wr A7 AF := Hri9.out.grown hg (fun b o e _ => by have := hupF b o e; omega)
          have hr10 := Hr9.out.grownD hg (fun b o e hl => by have := hAlt b o e hl; omega)
          have hT10 := HT9.out.grown hg (by omega)
          have Hset := Lib.hid (dsettle_any A4 n' l' c4 (some ⟨gL, 0, none⟩) cL _ A7 AF c7 W5.heap.size wr hr10 (fun b o e hl => fun h => by injection h with h; have := hAlt b o e hl; have h' : b = gL := h; omega) Hv'.out hl16' HL.out hri hni9 hafl Hwk.out hT10 (by omega))
          have k910 := k99.grown hg (fun e => by injection e with e; omega)
          have k210 := k29.grown hg (fun e => by injection e with e; omega)
          obtain ⟨e0, e1, _, _⟩ := k910.two
          have Hri10 := Lib.hid hri; have Hr10 := Lib.hid hr10
          clear hall HL hT10 hri hr10 k99 k29 HL9 Hri9 Hr9 HT9 hj
          go_wp2_with fail
          refine Hset.out.mono ?_
          rintro e w11 ⟨rfl, hL11, hg11⟩
          have hgLs := HgLs.out
          replace hg11 : wr.grownBy w11 (some gL) := hg11
          have k911 := k910.grown hg11 (fun e => by injection e with e; omega)
          have k211 := k210.grown hg11 (fun e => by injection e with e; omega)
          have hri11 := Hri10.out.grown hg11 (fun b o e _ => by have := hupF b o e; omega)
          have hr11 := Hr10.out.grownD hg11 (fun b o e hl => by have := hAlt b o e hl; omega)
          have hbw : Below w.heap.size w w11 := (hbb9.grown hg (by omega) (fun k hk => by injection hk with hk; omega)).grown hg11 (by have := hg.size; omega) (fun k hk => by injection hk with hk; omega)
          obtain ⟨e0, e1, _, _⟩ := k911.two
          obtain ⟨r0, r1, r2, f0, f1, f2⟩ := k211.threeF
          have hk := set3 k211 (.int .i64 (n' : Int)) (.slice A4 l'.length c4) (.slice (some ⟨gL, 0, none⟩) n' cL)
          have hr12 := ((hr11.set_far (g := w.heap.size + 1 + 1) (fun b o e _ => hneR b o e) 0 (.int .i64 (n' : Int))).set_far (g := w.heap.size + 1 + 1) (fun b o e _ => hneR b o e) 1 (.slice A4 l'.length c4)).set_far (g := w.heap.size + 1 + 1) (fun b o e _ => hneR b o e) 2 (.slice (some ⟨gL, 0, none⟩) n' cL)
          have hneF : ∀ b o, A7 = some ⟨b, o, none⟩ → AF ≠ [] → b ≠ w.heap.size + 1 + 1 := fun b o e _ => by have := hupF b o e; omega
          have hri12 := ((hri11.grown (grownBy_setCell _ (w.heap.size + 1 + 1) 0 (.int .i64 (n' : Int))) hneF).grown (grownBy_setCell _ (w.heap.size + 1 + 1) 1 (.slice A4 l'.length c4)) hneF).grown (grownBy_setCell _ (w.heap.size + 1 + 1) 2 (.slice (some ⟨gL, 0, none⟩) n' cL)) hneF
          have hgR : (Value.slice (some ⟨gL, 0, none⟩) n' cL).ownBlock ≠ some (w.heap.size + 1 + 1) := fun e => by have e' : some gL = some (w.heap.size + 1 + 1) := e; injection e' with e'; omega
          have hL12 := ((hL11.far (a := ⟨w.heap.size + 1 + 1, 0, none⟩) hgR (.int .i64 (n' : Int))).far (a := ⟨w.heap.size + 1 + 1, 1, none⟩) hgR (.slice A4 l'.length c4)).far (a := ⟨w.heap.size + 1 + 1, 2, none⟩) hgR (.slice (some ⟨gL, 0, none⟩) n' cL)
          have hbw12 := below_set3 hbw (g := w.heap.size + 1 + 1) (by omega) (.int .i64 (n' : Int)) (.slice A4 l'.length c4) (.slice (some ⟨gL, 0, none⟩) n' cL)
          obtain ⟨W12, hW12⟩ : ∃ W, ((w11.setCell ⟨w.heap.size + 1 + 1, 0, none⟩ (.int .i64 (n' : Int))).setCell ⟨w.heap.size + 1 + 1, 1, none⟩ (.slice A4 l'.length c4)).setCell ⟨w.heap.size + 1 + 1, 2, none⟩ (.slice (some ⟨gL, 0, none⟩) n' cL) = W := ⟨_, rfl⟩
          rw [hW12] at hk hr12 hri12 hL12 hbw12
          obtain ⟨q0, q1, q2, _, _, _⟩ := hk.threeF
          have hriL : RI W12 (some ⟨gL, 0, none⟩) (lst n' (grL n' l')) := hL12.ri
          have Hr12 := Lib.hid hr12; have Hri12 := Lib.hid hri12; have HriL := Lib.hid hriL; have Hbw := Lib.hid hbw12
          clear Hset hL11 hg11 k911 k211 hri11 hr11 hbw hk hr12 hri12 hL12 hbw12 hriL Hri10 Hr10 k910 k210
          go_wp2_with fail
          refine bodyPost_ret (v := .tuple #[.agg #[.int .i64 (n' : Int), .slice A4 l'.length c4, .slice (some ⟨gL, 0, none⟩) n' cL], .slice A7 AF.length c7, .int .i64 0]) (by simp [results, Tryz.results28, go_sem, q0, q1, q2]) rfl ?_
          exact ⟨A4, c4, some ⟨gL, 0, none⟩, cL, A7, c7, by rw [lst_length], ⟨Hr12.out, hnA4, hupA⟩, ⟨HriL.out, (fun e => by cases e), fun b o e => by injection e with e; injection e with e _ _; have := HgLs.out; omega⟩, ⟨Hri12.out, fun b o e => by have := hupF b o e; omega⟩, Hbw.out⟩
        case pos =>
        obtain ⟨a, han, ha⟩ := Hafn.out _ (List.getElem_mem hlt)
        have hst := setQ_step (x := 3) (L := fun i => if i < n then grL n l i else 3) hlt ha
        have hgl := hgLs
        have hri : RI wr A7 AF := Hri9.out.grown hg (fun b o e _ => by have := hupF b o e; omega)
        obtain ⟨b', o, rfl, hc0⟩ := hri.at_ hlt
        rw [ha] at hc0
        have hlt' : (j : Int) < (AF.length : Int) := by omega
        have han' : (a : Int) < (n' : Int) := by omega
        have ha0 : (0 : Int) ≤ (a : Int) := by omega
        have hca := HL.out.cell han
        have hfa : wr.frozen? ⟨gL, a, none⟩ = false := by
          obtain ⟨g, e, _, _, hf⟩ := HL.out.pos (by omega)
          injection e with e; injection e with e
          subst e
          exact hf a
        have hL2 := HL.out.store han 3
        rw [← hst] at hL2
        have hg2 := grownBy_trans hg (grownBy_setCell wr gL a (.int .i64 3))
        have HL2 := Lib.hid hL2; have Hg2 := Lib.hid hg2
        generalize setQ (AF.take j) 3 (fun i => if i < n then grL n l i else 3) a = z at *
        clear hst hL2 hg2 hri hg ha
        go_wp2_with fail
        go_roundw
        case rel => exact ⟨j + 1, by omega, by go_num, HL2.out, Hg2.out⟩
        case measure => simp [intOf]; omega
    case pos =>
    obtain ⟨b', o, rfl, hc0⟩ := (hrR6.below hb7).at_ hlt
    have hlt' : (j : Int) < (rs.length : Int) := by omega
    have hre := gReach_any A4 n' l' c4 rs[j] wr (hrA6.below hb7) Hv'.out.1.2.1 hT7
    rw [nGn_vld Hv'.out, nGl_vld Hv'.out, Int.toNat_natCast] at hre
    have hrl2 := reachL_len n' l' rs[j]
    have hsucc := catR_succ (n := n') (l := l') hlt
    generalize rs[j] = r at *
    obtain ⟨RL, hRL⟩ : ∃ RL, reachL n' l' r = RL := ⟨_, rfl⟩
    rw [hRL] at hre hrl2 hsucc
    have Hre := Lib.hid hre; have Hsucc := Lib.hid hsucc
    generalize catR n' l' (rs.take j) = CT at *
    clear hre hsucc hRL k97
    go_wp2_with fail
    refine Hre.out.mono ?_
    rintro e w8 ⟨A8, c8, rfl, ho8, _, _, hb8⟩
    obtain ⟨hri8, hni8⟩ := OwnI.form3 ho8
    have Hri8 := Lib.hid hri8
    have Ho8 := Lib.hid (OwnI.below Ho7.out hb8)
    have hb78 := endB hb7 hb8
    have hs8 : w6.heap.size ≤ w8.heap.size := hb78.size
    clear ho8 hri8 Hre Ho7 hT7 e0 e1 hc0
    go_wp2_with (at_builtin; refine wpList_appIs (by rfl) _ _ (by rfl) w8 w6.heap.size _ CT A8 RL c8 Ho8.out Hri8.out hni8 (by rfl) (by rfl) (by omega) hs8 ?_; intro v9 w9 ho9 hb9 _; (obtain ⟨A9, c9, rfl, _, _⟩ := OwnI.form ho9); have Ho9 := Lib.hid ho9; have Hb9 := Lib.hid hb9; clear ho9 hb9)
    go_roundw
    case rel => exact ⟨j + 1, A9, c9, by omega, by go_num, by rw [Hsucc.out]; simp, by rw [Hsucc.out]; exact Ho9.out, hb78.trans Hb9.out⟩
    case measure => simp [intOf]; omega
end Go.Proofs.YtkflanjlnbdkmaaGreatDoor

/- dynamic.Apply at valid states; ref19.Same; keep.Change, More. -/
namespace Go.Proofs.YtkflanjlnbdkmaaGreatDoor
open Go.ChangeShapes Go.WideShapes Go.ChangeAt Go.RowKit

/-- what a change of a valid state gives: the state, the nodes affected, the error -/
def apN (n : Nat) (l : List (Int × Int)) (k f t : Int) : Nat := if chkE n l k f t = 0 then chN n k else 0
def apL (n : Nat) (l : List (Int × Int)) (k f t : Int) : List (Int × Int) := if chkE n l k f t = 0 then chL n l k f t else []
def apG (n : Nat) (l : List (Int × Int)) (k f t : Int) : List Int := lst (apN n l k f t) (grL (apN n l k f t) (apL n l k f t))
def apF (n : Nat) (l : List (Int × Int)) (k f t : Int) : List Int := if chkE n l k f t = 0 then affL (chN n k) (chL n l k f t) (rtL n l k t) else []
theorem dapply_any (A B : Option Addr) (n : Nat) (l : List (Int × Int)) (c d : Nat) (k f t : Int) (w : World) (hr : RP w A l) (hA : A = none → l = [] ∧ c = 0) (hi : RI w B (lst n (grL n l))) (hB : B = none → lst n (grL n l) = [] ∧ d = 0) (hvl : Vld n l) (hT : Tab w) :
    Calls Tryz.prog 28 #[.agg #[.int .i64 (n : Int), .slice A l.length c, .slice B (lst n (grL n l)).length d], .agg #[.int .i64 k, .int .i64 f, .int .i64 t]] w
      (RetAp (apN n l k f t : Nat) (apL n l k f t) (apG n l k f t) (apF n l k f t) (chkE n l k f t) w) := by
  by_cases hk : chkE n l k f t = 0
  · have := dapply_ok A B n l c d k f t w hr hA hi hB hvl hT hk
    unfold apG apN apL apF
    rw [if_pos hk, if_pos hk, if_pos hk, hk]
    exact this
  · have := dapply_bad A B n l (lst n (grL n l)) c d k f t w hr hvl hk
    unfold apG apN apL apF
    rw [if_neg hk, if_neg hk, if_neg hk]
    exact this
theorem ap_ok {n : Nat} {l : List (Int × Int)} {k f t : Int} (h : chkE n l k f t = 0) : apN n l k f t = chN n k ∧ apL n l k f t = chL n l k f t ∧ apF n l k f t = affL (chN n k) (chL n l k f t) (rtL n l k t) := by
  unfold apN apL apF; rw [if_pos h, if_pos h, if_pos h]; exact ⟨rfl, rfl, rfl⟩
theorem ap_vld {n : Nat} {l : List (Int × Int)} {k f t : Int} (hv : Vld n l) : Vld (apN n l k f t) (apL n l k f t) := by
  by_cases h : chkE n l k f t = 0
  · rw [(ap_ok h).1, (ap_ok h).2.1]; exact ch_vld hv.1.1 h
  · unfold apN apL; rw [if_neg h, if_neg h]
    exact ⟨⟨by omega, by simp, fun p hp => by cases hp⟩, .nil⟩
set_option maxRecDepth 100000 in
set_option maxHeartbeats 2000000 in
theorem dApply_good (A B : Option Addr) (n : Nat) (l : List (Int × Int)) (c d : Nat) (k f t : Int) (w : World) (hr : RP w A l) (hA : A = none → l = [] ∧ c = 0) (hi : RI w B (lst n (grL n l))) (hB : B = none → lst n (grL n l) = [] ∧ d = 0) (hvl : Vld n l) (hT : Tab w) :
    Calls Tryz.prog 12 #[.agg #[.int .i64 (n : Int), .slice A l.length c, .slice B (lst n (grL n l)).length d], .agg #[.int .i64 k, .int .i64 f, .int .i64 t]] w
      (RetAp (apN n l k f t : Nat) (apL n l k f t) (apG n l k f t) (apF n l k f t) (chkE n l k f t) w) := by
  have hl := hvl.1.2.1
  have hn40 := hvl.1.1
  have hlabl : (lst n (grL n l)).length ≤ 100000 := by rw [lst_length]; omega
  have hdv : dvB n l (lst n (grL n l)) = true := by
    unfold dvB
    rw [hvl.valE, Int.toNat_natCast]
    simp [eqB]
  have hval := fun W (h1 : RP W A l) (h2 : RI W B (lst n (grL n l))) (h3 : Tab W) => dvalid_any A B n l (lst n (grL n l)) c d W h1 hl h2 hlabl h3
  rw [hdv] at hval
  have hap := fun W (h1 : RP W A l) (h2 : RI W B (lst n (grL n l))) (h3 : Tab W) => dapply_any A B n l c d k f t W h1 hA h2 hB hvl h3
  generalize apN n l k f t = n' at *
  generalize apL n l k f t = l' at *
  generalize apG n l k f t = g' at *
  generalize apF n l k f t = f' at *
  generalize chkE n l k f t = E at *
  generalize lst n (grL n l) = G at *
  clear hdv
  go_enter Tryz.func12, Tryz.ntmps12
  go_upto_region 1 with fail
  obtain ⟨W0, hW, k0, k1, k2, hb0⟩ := boxed333 w 27 29 27 (.int .i64 (n : Int)) (.slice A l.length c) (.slice B G.length d) (.int .i64 k) (.int .i64 f) (.int .i64 t) (.int .i64 0) (.slice none 0 0) (.slice none 0 0)
  rw [hW]
  obtain ⟨c0, c1, c2, _, _, _⟩ := k0.threeF
  obtain ⟨d0, d1, d2, _, _, _⟩ := k1.threeF
  have hr0 := hr.below hb0
  have hi0 := hi.below hb0
  have hT0 := hT.below hb0
  have Hval := Lib.hid (hval W0 hr0 hi0 hT0)
  clear hW hr hi hT hval
  go_wp2_with fail
  refine Hval.out.mono ?_
  rintro e w1 ⟨rfl, hb1⟩
  have k01 := k0.below hb1 k0.lt
  have k11 := k1.below hb1 k1.lt
  have k21 := k2.below hb1 k2.lt
  obtain ⟨c0, c1, c2, _, _, _⟩ := k01.threeF
  obtain ⟨d0, d1, d2, _, _, _⟩ := k11.threeF
  have hbb1 := endB hb0 hb1
  have Hap := Lib.hid (hap w1 (hr0.below hb1) (hi0.below hb1) (hT0.below hb1))
  clear Hval hap hr0 hi0 hT0 k0 k1 k2
  go_wp2_with fail
  refine Hap.out.mono ?_
  rintro e w2 ⟨A2, c2', B2, d2', F2, f2, rfl, ⟨hrp, hn1, hu1⟩, ⟨hri, hn2, hu2⟩, ⟨hrf, hu3⟩, hb2⟩
  have k22 := k21.below hb2 k21.lt
  have hbb2 := endB hbb1 hb2
  have hs1 : w.heap.size + 1 + 1 < w1.heap.size := k21.lt
  obtain ⟨r0, r1, r2, f0, f1, f2x⟩ := k22.threeF
  have hk := set3 k22 (.int .i64 (n' : Int)) (.slice A2 l'.length c2') (.slice B2 g'.length d2')
  have hbb3 := below_set3 hbb2 (g := w.heap.size + 1 + 1) (by omega) (.int .i64 (n' : Int)) (.slice A2 l'.length c2') (.slice B2 g'.length d2')
  have hne1 : ∀ b o, A2 = some ⟨b, o, none⟩ → 0 < l'.length → b ≠ w.heap.size + 1 + 1 := fun b o e _ => by have := hu1 b o e; omega
  have hne2 : ∀ b o, B2 = some ⟨b, o, none⟩ → g' ≠ [] → b ≠ w.heap.size + 1 + 1 := fun b o e _ => by have := hu2 b o e; omega
  have hne3 : ∀ b o, F2 = some ⟨b, o, none⟩ → f' ≠ [] → b ≠ w.heap.size + 1 + 1 := fun b o e _ => by have := hu3 b o e; omega
  have hrp3 := ((hrp.set_far hne1 0 (.int .i64 (n' : Int))).set_far hne1 1 (.slice A2 l'.length c2')).set_far hne1 2 (.slice B2 g'.length d2')
  have hri3 := ((hri.grown (grownBy_setCell _ (w.heap.size + 1 + 1) 0 (.int .i64 (n' : Int))) hne2).grown (grownBy_setCell _ (w.heap.size + 1 + 1) 1 (.slice A2 l'.length c2')) hne2).grown (grownBy_setCell _ (w.heap.size + 1 + 1) 2 (.slice B2 g'.length d2')) hne2
  have hrf3 := ((hrf.grown (grownBy_setCell _ (w.heap.size + 1 + 1) 0 (.int .i64 (n' : Int))) hne3).grown (grownBy_setCell _ (w.heap.size + 1 + 1) 1 (.slice A2 l'.length c2')) hne3).grown (grownBy_setCell _ (w.heap.size + 1 + 1) 2 (.slice B2 g'.length d2')) hne3
  obtain ⟨W3, hW3⟩ : ∃ W, ((w2.setCell ⟨w.heap.size + 1 + 1, 0, none⟩ (.int .i64 (n' : Int))).setCell ⟨w.heap.size + 1 + 1, 1, none⟩ (.slice A2 l'.length c2')).setCell ⟨w.heap.size + 1 + 1, 2, none⟩ (.slice B2 g'.length d2') = W := ⟨_, rfl⟩
  rw [hW3] at hk hbb3 hrp3 hri3 hrf3
  obtain ⟨q0, q1, q2, _, _, _⟩ := hk.threeF
  have Hrp := Lib.hid hrp3; have Hri := Lib.hid hri3; have Hrf := Lib.hid hrf3; have Hbb := Lib.hid hbb3
  clear Hap hrp hri hrf hrp3 hri3 hrf3 hbb3 hk k21 k22 hb2
  go_wp2_with fail
  refine bodyPost_ret (v := .tuple #[.agg #[.int .i64 (n' : Int), .slice A2 l'.length c2', .slice B2 g'.length d2'], .slice F2 f'.length f2, .int .i64 E]) (by simp [results, Tryz.results12, go_sem, q0, q1, q2]) rfl ?_
  have hw1 := hbb1.size
  exact ⟨A2, c2', B2, d2', F2, f2, rfl, ⟨Hrp.out, hn1, fun b o e => by have := hu1 b o e; omega⟩, ⟨Hri.out, hn2, fun b o e => by have := hu2 b o e; omega⟩, ⟨Hrf.out, fun b o e => by have := hu3 b o e; omega⟩, Hbb.out⟩
end Go.Proofs.YtkflanjlnbdkmaaGreatDoor
