/- graph: Reverse, Attackers. -/
import Derived.Test.YthkknlnfdckdfaaGreatDoorGr
import Derived.Test.YthkknlnfdckdfaaGreatDoorSrt
import Derived.Test.YthkknlnfdckdfaaGreatDoorRef13
namespace Go.Proofs.YthkknlnfdckdfaaGreatDoor
open Go.ChangeShapes Go.WideShapes Go.ChangeAt Go.RowKit

theorem isAggP : ∀ w, (isAgg 43).run Tryz.prog w = .ok true w := Tryz.isAgg43
theorem sizeOfP : ∀ w, (Go.sizeOf 43).run Tryz.prog w = .ok 2 w := Tryz.sizeOf43

/-- the library's sort of pairs, by compare -/
theorem sortP_any (g c : Nat) (l : List (Int × Int)) (w : World) (hH : Go.Sort.HoldsK encP 2 w g 0 l.toArray) (hg : g < w.heap.size) (hl : l.length ≤ 100000) :
    Calls Tryz.prog 107 #[.slice (some ⟨g, 0, none⟩) l.length c, .func (.func 49) #[] #[]] w (fun e w' =>
      e = .returned (.tuple #[]) ∧ ∃ n os, w' = sortWorldK encP 2 w g 0 n (l.mergeSort fun x y => !(ltOf cmpP) y x).toArray os) := by
  have eg : ∀ args w, (callFunc 49 args).run Tryz.prog w = .ok (.enter 49 args) w := enters_of Tryz.func49 (by kernel_rfl) rfl
  have hcmp : CmpLays Tryz.prog 49 #[] encP 2 cmpP g 0 l.toArray.size w := fun _ _ _ _ x y => (compare_any x y _).mono fun _ _ h => ⟨h.1, h.2⟩
  have h := AnyQ.slices_SortFunc_total sortP 2 isAggP sizeOfP encP (fun _ => rfl) (fun x v hv => by simp [encP] at hv; rcases hv with rfl | rfl <;> rfl) cmpP swoP 49 #[] g 0 c l.toArray w eg hcmp hH hg (by simp; omega) totP
  exact h
theorem sortP_none (A : Option Addr) (c : Nat) (w : World) :
    Calls Tryz.prog 107 #[.slice A 0 c, .func (.func 49) #[] #[]] w (Ret (.tuple #[]) w) :=
  (AnyF.slices_SortFunc_none { sortP with } A c (.func (.func 49) #[] #[]) w).mono fun _ _ h => ⟨h.1, h.2.symm⟩

/-- 'out = append(out, api.Pair{..})', the new pair's block by its number -/
theorem wpList_appP2 {ops : Array Oper} {rest : List Oper} {o : Oper} {a : Act} {Q : Exit → Act → World → Prop} (hgd : o.guard = none) (s x : Operand)
    (ho : o.op = .call { callee := .builtin .append, args := #[s, x], argTypes := #[25, 25] })
    (X : World) (base : Nat) (v : Value) (l : List (Int × Int)) (y z : Int) (hown : OwnP X base v l) (hs : a.eval s = v) {gx : Nat} (hx : a.eval x = .slice (some ⟨gx, 0, none⟩) 1 1) (hgx : gx = X.heap.size)
    (hlen : l.length ≤ 1000000) (hbase : base ≤ X.heap.size)
    (h : ∀ v' w', OwnP w' base v' (l ++ [(y, z)]) → Below base X w' → X.grownBy w' v.ownBlock → wpList Tryz.prog ops Q rest (a.put o.dst v') w') :
    wpList Tryz.prog ops Q (o :: rest) a (X.alloc (.cells #[.int .i64 y, .int .i64 z] 43)) := by
  subst hgx
  exact wpList_appP hgd s x ho X base v l y z hown hs hx hlen hbase h

/-- the call returns a graph by value, its pairs in new memory -/
def RetGN (N : Int) (l : List (Int × Int)) (w : World) : Ending → World → Prop := fun e w' => ∃ A c, e = .returned (.agg #[.int .i64 N, .slice A l.length c]) ∧ RP w' A l ∧ (∀ b o, A = some ⟨b, o, none⟩ → w.heap.size ≤ b) ∧ Below w.heap.size w w'

set_option maxRecDepth 100000 in
set_option maxHeartbeats 4000000 in
theorem gReverse_any (A : Option Addr) (N : Int) (l : List (Int × Int)) (c : Nat) (w : World) (hr : RP w A l) (hlen : l.length ≤ 100000) :
    Calls Tryz.prog 82 #[.agg #[.int .i64 N, .slice A l.length c]] w (RetGN (nGn N l) (revL (nGl N l)) w) := by
  go_enter Tryz.func82, Tryz.ntmps82
  go_wp2_with fail
  obtain ⟨W0, hW, k0, k1, hb0, hlt0⟩ := boxed2 w 27 27 (.int .i64 N) (.slice A l.length c) (.int .i64 0) (.slice none 0 0)
  rw [hW]
  have hr0 := hr.below hb0
  have hltA : ∀ b o, A = some ⟨b, o, none⟩ → 0 < (nGl N l).length → b < w.heap.size := fun b o hA hl => hr.lt hA (by unfold nGl at hl; split at hl <;> simp_all)
  clear hW hr
  refine (proper_any _ _ _ _ _ hr0 hlen).mono ?_
  rintro e w1 ⟨A', c', rfl, hr1, hAA, hb⟩
  have hlen' := nGl_len (N := N) hlen
  have j0 := k0.below hb k0.lt
  have j1 := k1.below hb k1.lt
  obtain ⟨a0, a1, a2, a3⟩ := j0.two
  have hbb := endB hb0 hb
  obtain ⟨n, hn, hv⟩ := vld_proper N l hlen
  have Hn := Lib.hid hn
  rw [hn]
  clear hn k0 k1
  generalize nGl N l = l' at *
  have hltA' : ∀ b o, A' = some ⟨b, o, none⟩ → 0 < l'.length → b < w.heap.size := fun b o hA hl => by
    rcases hAA with h | h
    · rw [h] at hA; exact hltA b o hA hl
    · subst h; simp at hl
  have k2 : Blk _ w.heap.size 27 #[.int .i64 (n : Int), .slice A' l'.length c'] := (j0.set_ 0 (.int .i64 (n : Int))).set_ 1 (.slice A' l'.length c')
  have k3 : Blk ((w1.setCell ⟨w.heap.size, 0, none⟩ (.int .i64 (n : Int))).setCell ⟨w.heap.size, 1, none⟩ (.slice A' l'.length c')) (w.heap.size + 1) 27 #[.int .i64 0, .slice none 0 0] := (j1.far (p := ⟨w.heap.size, 0, none⟩) (by simp) _).far (p := ⟨w.heap.size, 1, none⟩) (by simp) _
  have hr2 := hr1.far2 (g := w.heap.size) (fun b o hA hl => Nat.ne_of_lt (hltA' b o hA hl)) (.int .i64 (n : Int)) (.slice A' l'.length c')
  have hE : Below w.heap.size w ((w1.setCell ⟨w.heap.size, 0, none⟩ (.int .i64 (n : Int))).setCell ⟨w.heap.size, 1, none⟩ (.slice A' l'.length c')) := (hbb.setCell (p := ⟨w.heap.size, 0, none⟩) (Nat.le_refl _) _).setCell (p := ⟨w.heap.size, 1, none⟩) (Nat.le_refl _) _
  obtain ⟨W2, hW2⟩ : ∃ W2, (w1.setCell ⟨w.heap.size, 0, none⟩ (.int .i64 (n : Int))).setCell ⟨w.heap.size, 1, none⟩ (.slice A' l'.length c') = W2 := ⟨_, rfl⟩
  rw [hW2] at k2 k3 hr2 hE
  obtain ⟨d0, d1, _, _⟩ := k2.two
  have Hbw := hE
  have hGw : w.heap.size + 1 < W2.heap.size := k3.lt
  have hGw' : w.heap.size < W2.heap.size := k2.lt
  go_wp2_with fail
  obtain ⟨W3, hW3, kg, hb3, hs3⟩ : ∃ W3, W2.alloc (.cells #[.int .i64 (n : Int), .slice none 0 0] 27) = W3 ∧ Blk W3 W2.heap.size 27 #[.int .i64 (n : Int), .slice none 0 0] ∧ Below W2.heap.size W2 W3 ∧ W3.heap.size = W2.heap.size + 1 := ⟨_, rfl, Blk.new _ _ _, newB _ _, by simp⟩
  rw [hW3]
  have k2' := k2.below hb3 k2.lt
  have k3' := k3.below hb3 k3.lt
  have hr3 := hr2.below hb3
  have hE3 := hE.trans (hb3.mono hE.size)
  clear hW2 hW3 a0 a1 a2 a3 d0 d1 k2 k3 hr2 hr1 hE Hbw hAA hltA j0 j1 hb0 hb hbb hr0 hb3
  have hlenl := hv.1.2.1
  generalize W2.heap.size = G at *
  obtain ⟨B, hB⟩ : ∃ B, G + 1 = B := ⟨_, rfl⟩
  rw [hB] at hs3
  have hGB : G < B := by omega
  go_loopw [14] (fun i wr => ∃ (k : Nat) (v : Value), k ≤ l'.length ∧ i = .int .i64 k ∧ OwnP wr B v ((l'.take k).map swapP) ∧ Blk wr G 27 #[.int .i64 (n : Int), v] ∧ Blk wr w.heap.size 27 #[.int .i64 (n : Int), .slice A' l'.length c'] ∧ Blk wr (w.heap.size + 1) 27 #[.int .i64 0, .slice none 0 0] ∧ B ≤ wr.heap.size ∧ Below w.heap.size w wr ∧ RP wr A' l') (fun i _ => l'.length - (intOf i).toNat)
  case atStart => exact ⟨0, _, Nat.zero_le _, rfl, OwnP.nil _ _, kg, k2', k3', by omega, hE3, hr3⟩
  case round =>
    clear kg k2' k3' hE3 hr3
    obtain ⟨k, v, hk, rfl, hown, kg, kb, kr, hBw, hbw, hrp⟩ := hrel
    obtain ⟨d0, d1, _, _⟩ := kb.two
    obtain ⟨f0, f1, f2, f3⟩ := kg.two
    obtain ⟨AV, cV, rfl, hrv, hnv⟩ := hown.form
    have hml : ((l'.take k).map swapP).length = k := by rw [List.length_map, List.length_take]; omega
    have Hown := Lib.hid hown; have Hml := Lib.hid hml
    clear hown hml
    by_cases hlt : k < l'.length
    case pos =>
      obtain ⟨b, o, rfl, hc, hd⟩ := hrp.at_ hlt
      obtain ⟨W4, hW4, e0, e1, hb4, hlt4⟩ := boxed wr 43 (.int .i64 l'[k].1) (.int .i64 l'[k].2)
      have hs4 : W4.heap.size ≤ wr.heap.size + 1 := by rw [← hW4]; simp
      have g0 := (hb4.cell (lt_of_cell f0)).trans f0
      have g1 := (hb4.cell (lt_of_cell f1)).trans f1
      have hl6 : ((l'.take k).map swapP).length ≤ 1000000 := by rw [Hml.out]; omega
      have Hown4 := Lib.hid (ownsRow_below Hown.out hb4 : OwnP W4 B _ _)
      have hB4 := Nat.le_trans hBw hb4.size
      have kg4 := kg.below hb4 kg.lt; have kb4 := kb.below hb4 kb.lt; have kr4 := kr.below hb4 kr.lt
      have hbw4 := hbw.trans (hb4.mono hbw.size)
      have hrp4 := hrp.below hb4
      clear hnv hrv hb4 hrp
      go_wp2_with (at_builtin; go_loud (refine wpList_appP2 (by rfl) _ _ (by rfl) W4 B _ _ l'[k].2 l'[k].1 Hown4.out (by show _ = Value.slice _ _ _; rw [Hml.out]; rfl) (by rfl) (by omega) hl6 hB4 ?_); intro v' w5 hown5 hb5 hg5; (obtain ⟨A5, c5, rfl, _, _⟩ := OwnP.form hown5); (rw [List.length_append, Hml.out] at hown5); (rw [List.length_append, Hml.out]); have kg5 := kg4.append Hown4.out hg5 hGB; (obtain ⟨b0, b1, b2, b3⟩ := kg5.two); have Hown5 := Lib.hid hown5; clear hown5)
      have e : (l'.take k).map swapP ++ [(l'[k].2, l'[k].1)] = (l'.take (k + 1)).map swapP := by rw [List.take_succ_eq_append_getElem hlt, List.map_append]; rfl
      have hown6 := Hown5.out
      rw [e] at hown6
      go_roundw
      case rel =>
        refine ⟨k + 1, .slice A5 (k + 1) c5, by omega, by go_num, ownsRow_setCell_below hown6 (a := ⟨G, 1, none⟩) hGB _, ?_, (kb4.append Hown4.out hg5 (by omega)).far (p := ⟨G, 1, none⟩) (by show w.heap.size ≠ G; omega) _, (kr4.append Hown4.out hg5 (by omega)).far (p := ⟨G, 1, none⟩) (by show w.heap.size + 1 ≠ G; omega) _, by simp [World.setCell]; exact Nat.le_trans hB4 hb5.size, (hbw4.trans (hb5.mono (by omega))).setCell (p := ⟨G, 1, none⟩) (by show w.heap.size ≤ G; omega) _, ?_⟩
        · exact kg5.set_ 1 (.slice A5 (k + 1) c5)
        · intro j hj
          obtain ⟨b', o', hA, hc', hd'⟩ := hrp4 j hj
          have hlt' := hltA' b' o' hA (by omega)
          have hne : ∀ q, (⟨b', q, none⟩ : Addr).block < B := fun q => by show b' < B; omega
          exact ⟨b', o', hA, by rw [World.cell?_setCell_other _ _ _ _ (fun e => by injection e; omega), hb5.cell (hne _)]; exact hc', by rw [World.cell?_setCell_other _ _ _ _ (fun e => by injection e; omega), hb5.cell (hne _)]; exact hd'⟩
      case measure => simp [intOf]; omega
    case neg =>
    have hfull : l'.take k = l' := List.take_of_length_le (by omega)
    have hown := Hown.out
    rw [hfull] at hown hrv hnv
    rw [hfull] at kg f1
    have hlm : (l'.map swapP).length = l'.length := List.length_map ..
    clear Hown Hml hfull
    have hend : ∀ (X : World) (A2 : Option Addr) (c2 : Nat) (m : List (Int × Int)), Blk X (w.heap.size + 1) 27 #[.int .i64 0, .slice none 0 0] → Below w.heap.size w X → RP X A2 m → (∀ b o, A2 = some ⟨b, o, none⟩ → B ≤ b) →
        Blk ((X.setCell ⟨w.heap.size + 1, 0, none⟩ (.int .i64 (n : Int))).setCell ⟨w.heap.size + 1, 1, none⟩ (.slice A2 m.length c2)) (w.heap.size + 1) 27 #[.int .i64 (n : Int), .slice A2 m.length c2] ∧ Below w.heap.size w ((X.setCell ⟨w.heap.size + 1, 0, none⟩ (.int .i64 (n : Int))).setCell ⟨w.heap.size + 1, 1, none⟩ (.slice A2 m.length c2)) ∧ RP ((X.setCell ⟨w.heap.size + 1, 0, none⟩ (.int .i64 (n : Int))).setCell ⟨w.heap.size + 1, 1, none⟩ (.slice A2 m.length c2)) A2 m := by
      intro X A2 c2 m hk hb hp hl
      exact ⟨(hk.set_ 0 _).set_ 1 _, (hb.setCell (p := ⟨w.heap.size + 1, 0, none⟩) (Nat.le_succ _) _).setCell (p := ⟨w.heap.size + 1, 1, none⟩) (Nat.le_succ _) _, hp.far2 (fun b o h _ => by have := hl b o h; omega) _ _⟩
    have Hend := Lib.hid hend
    clear hend
    by_cases hz : l'.length = 0
    · obtain rfl : l' = [] := List.eq_nil_of_length_eq_zero hz
      go_wp2_with fail
      refine (sortP_none AV cV wr).mono ?_
      rintro e X ⟨rfl, rfl⟩
      obtain ⟨r0, r1, r2, r3⟩ := kr.two
      have hlocV : ∀ b o, AV = some ⟨b, o, none⟩ → B ≤ b := fun b o h => by subst h; exact (World.ownsRow.lt hown b rfl).1
      obtain ⟨h1, h2, h3⟩ := Hend.out wr AV cV [] kr hbw (RP.nil _ _) hlocV
      have H1 := Lib.hid h1; have H2 := Lib.hid h2; have H3 := Lib.hid h3
      clear h1 h2 h3
      go_wp2_with fail
      obtain ⟨e0, e1, _, _⟩ := H1.out.two
      refine bodyPost_ret (v := .agg #[.int .i64 (n : Int), .slice AV 0 cV]) (by simp [results, Tryz.results82, go_sem] at e0 e1 ⊢; simp [e0, e1]) rfl ?_
      have hrev0 : revL [] = [] := by simp [revL]
      rw [hrev0, Hn.out]
      exact ⟨AV, cV, rfl, H3.out, fun b o h => by have := hlocV b o h; omega, H2.out⟩
    · obtain ⟨g, hAV, hgB⟩ : ∃ g, AV = some ⟨g, 0, none⟩ ∧ B ≤ g := by
        rcases hown.2 with ⟨e, h0⟩ | ⟨g, cap, cur, e, hg, _⟩
        · omega
        · injection e with e1 _ _; exact ⟨g, e1, hg⟩
      subst hAV
      have hgw : g < wr.heap.size := (World.ownsRow.lt hown g rfl).2
      have hH := holds_of_own (l := l'.map swapP) hown
      have hsort := sortP_any g cV (l'.map swapP) wr hH hgw (by omega)
      rw [hlm] at hsort
      have Hs := Lib.hid hsort
      have HH := Lib.hid hH
      clear hsort hH
      go_wp2_with fail
      refine Hs.out.mono ?_
      rintro e X ⟨rfl, q, os, hX⟩
      obtain ⟨hs1, hs2⟩ := sorted_world (n := q) (d := ((l'.map swapP).mergeSort fun x y => !(ltOf cmpP) y x).toArray) (os := os) hgw
      have hHX := holdsK_sortWorldK_c encP 2 wr g 0 (l'.map swapP).toArray ((l'.map swapP).mergeSort fun x y => !(ltOf cmpP) y x).toArray q os HH.out hgw (by simp)
      rw [← hX] at hs1 hs2 hHX
      have hrX : RP X (some ⟨g, 0, none⟩) (revL l') := rp_of_holds hHX
      have kgX := kg.grown hs1 (by simp; omega)
      have krX := kr.grown hs1 (by simp; omega)
      have hbX := hbw.trans (hs2 w.heap.size (by omega))
      clear hX hs1 hs2 hHX Hs HH
      obtain ⟨f0, f1, _, _⟩ := kgX.two
      obtain ⟨r0, r1, r2, r3⟩ := krX.two
      have hrl : (revL l').length = l'.length := revL_length l'
      obtain ⟨h1, h2, h3⟩ := Hend.out X (some ⟨g, 0, none⟩) cV (revL l') krX hbX hrX (fun b o h => by injection h with h; injection h with h; omega)
      rw [hrl] at h1 h2 h3
      have H1 := Lib.hid h1; have H2 := Lib.hid h2; have H3 := Lib.hid h3; have Hrl := Lib.hid hrl
      clear h1 h2 h3 hrl
      go_wp2_with fail
      obtain ⟨e0, e1, _, _⟩ := H1.out.two
      refine bodyPost_ret (v := .agg #[.int .i64 (n : Int), .slice (some ⟨g, 0, none⟩) l'.length cV]) (by simp [results, Tryz.results82, go_sem] at e0 e1 ⊢; simp [e0, e1]) rfl ?_
      rw [Hn.out]
      exact ⟨some ⟨g, 0, none⟩, cV, by rw [Hrl.out], H3.out, fun b o h => by injection h with h; injection h with h; omega, H2.out⟩

set_option maxHeartbeats 1000000 in
theorem gAttackers_any (A : Option Addr) (n : Nat) (l : List (Int × Int)) (c : Nat) (i : Int) (w : World) (hr : RP w A l) (hv : Vld n l) (hT : Tab w) :
    Calls Tryz.prog 61 #[.agg #[.int .i64 (n : Int), .slice A l.length c], .int .i64 i] w (RetI (attackersL l i) w) := by
  have hlen := hv.1.2.1
  have hgn : nGn n l = n := by unfold nGn; rw [hv.valE]; rfl
  have hgl : nGl n l = l := by unfold nGl; rw [hv.valE]; rfl
  have hgr : nGl n (revL l) = revL l := by unfold nGl; rw [(revL_vld hv).valE]; rfl
  have Hgn := Lib.hid hgn; have Hgl := Lib.hid hgl; have Hgr := Lib.hid hgr; have Hat := Lib.hid (attacked_revL hv i)
  clear hgn hgl hgr
  go_enter Tryz.func61, Tryz.ntmps61
  go_wp2_with fail
  obtain ⟨W0, hW, c0, c1, hb0, hlt0⟩ := boxed w 27 (.int .i64 n) (.slice A l.length c)
  rw [hW]
  refine (gReverse_any A n l c W0 (hr.below hb0) hlen).mono ?_
  rintro e w1 ⟨A1, c1', rfl, hr1, _, hb1⟩
  rw [Hgl.out] at hr1 ⊢
  rw [Hgn.out]
  have hB1 := endB hb0 hb1
  have hTT := hT.below hB1
  have hrl := revL_length l
  have hl1 : (revL l).length ≤ 100000 := by omega
  have Hrl := Lib.hid hrl
  clear hW c0 c1 hrl
  go_wp2_with fail
  refine (gAttacked_any A1 n (revL l) c1' i w1 hr1 hl1 hTT).mono ?_
  rintro e w2 ⟨A2, c2, rfl, ho, hri, hnn, hb2⟩
  rw [Hgr.out, Hat.out] at ho hri hnn ⊢
  go_wp2_with fail
  go_ret
  exact ⟨A2, c2, rfl, ho.mono hB1.size, hri, hnn, endB hB1 hb2⟩
end Go.Proofs.YthkknlnfdckdfaaGreatDoor
