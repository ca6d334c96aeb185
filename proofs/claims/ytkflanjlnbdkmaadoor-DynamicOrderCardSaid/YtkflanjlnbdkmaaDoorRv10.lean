/- ref10.Reverse. -/
import Derived.Test.YtkflanjlnbdkmaaDoorRev
import Derived.Test.YtkflanjlnbdkmaaDoorRef10
namespace Go.Proofs.YtkflanjlnbdkmaaDoor
open Go.ChangeShapes Go.WideShapes Go.ChangeAt Go.RowKit

theorem OwnI.farC' {w : World} {B : Nat} {v : Value} {l : List Int} (h : OwnI w B v l) {a : Addr} (ha : a.block < B) (u : Value) : OwnI (w.setCell a u) B v l :=
  ownsRow_setCell_below h ha u
/-- the pairs of the reverse, row by row -/
def rvL (l : List (Int × Int)) : Nat → List (Int × Int)
  | 0 => []
  | k + 1 => rvL l k ++ (attackersL l (k : Int)).map fun x => ((k : Int), x)
theorem mem_rvL {l : List (Int × Int)} {a b : Int} : ∀ {k : Nat}, (a, b) ∈ rvL l k ↔ 0 ≤ a ∧ a < k ∧ (b, a) ∈ l
  | 0 => by simp [rvL]; omega
  | k + 1 => by
    unfold rvL
    rw [List.mem_append, mem_rvL, List.mem_map]
    constructor
    · rintro (⟨h1, h2, h3⟩ | ⟨x, hx, e⟩)
      · exact ⟨h1, by omega, h3⟩
      · injection e with e1 e2
        subst e2
        rw [← e1]
        exact ⟨by omega, by omega, mem_attackersL.1 hx⟩
    · rintro ⟨h1, h2, h3⟩
      by_cases e : a = k
      · subst e
        exact .inr ⟨b, mem_attackersL.2 h3, rfl⟩
      · exact .inl ⟨h1, by omega, h3⟩
theorem rvL_sorted {n : Nat} {l : List (Int × Int)} (hv : Vld n l) : ∀ k, (rvL l k).Pairwise ltP
  | 0 => .nil
  | k + 1 => by
    unfold rvL
    rw [List.pairwise_append]
    refine ⟨rvL_sorted hv k, ?_, fun p hp q hq => ?_⟩
    · rw [List.pairwise_map]
      refine (attackersL_sorted hv.2 (k : Int)).imp fun {a b} h => ?_
      unfold ltP; omega
    · obtain ⟨a, b⟩ := p
      obtain ⟨x, _, rfl⟩ := List.mem_map.1 hq
      have := mem_rvL.1 hp
      unfold ltP; dsimp only; omega
theorem rvL_rev {n : Nat} {l : List (Int × Int)} (hv : Vld n l) : rvL l n = revL l :=
  sortedP_ext _ _ (rvL_sorted hv n) (revL_vld hv).2 fun p => by
    obtain ⟨a, b⟩ := p
    rw [mem_rvL, mem_revL]
    constructor
    · exact fun h => h.2.2
    · intro h
      have := hv.1.2.2 _ h
      dsimp only at this
      exact ⟨by omega, by omega, h⟩
theorem rvL_len {n : Nat} {l : List (Int × Int)} (hv : Vld n l) {k : Nat} (hk : k ≤ n) : (rvL l k).length ≤ 100000 := by
  have : ∀ d, (rvL l k).length ≤ (rvL l (k + d)).length := by
    intro d
    induction d with
    | zero => exact Nat.le_refl _
    | succ d ih =>
      refine Nat.le_trans ih ?_
      rw [show rvL l (k + (d + 1)) = rvL l (k + d) ++ (attackersL l ((k + d : Nat) : Int)).map fun x => (((k + d : Nat) : Int), x) from rfl, List.length_append]
      omega
  have h := this (n - k)
  rw [show k + (n - k) = n by omega, rvL_rev hv, revL_length] at h
  have := hv.1.2.1
  omega

theorem OwnI.apartP {w : World} {b b' : Nat} {v v' : Value} {l : List Int} {L : List (Int × Int)} (h : OwnI w b v l) (k : OwnP w b' v' L) : v.ownBlock = none ∨ v.ownBlock ≠ v'.ownBlock := by
  obtain ⟨_, h2⟩ := h
  obtain ⟨_, k2⟩ := k
  rcases h2 with ⟨rfl, _⟩ | ⟨g, cap, cur, rfl, _, hg, _⟩
  · exact .inl rfl
  · rcases k2 with ⟨rfl, _⟩ | ⟨g', cap', cur', rfl, _, hg', _⟩
    · exact .inr (by simp [Value.ownBlock])
    · refine .inr fun e => ?_
      simp only [Value.ownBlock, Option.some.injEq] at e
      subst e
      rw [hg] at hg'
      simp only [Option.some.injEq, Obj.cells.injEq] at hg'
      exact absurd hg'.2.1 (by decide)
/-- the memory of the reversal -/
structure RvS (w : World) (n : Nat) (l : List (Int × Int)) (A : Option Addr) (c G B : Nat) (L : List (Int × Int)) (v : Value) (wr : World) : Prop where
  own : OwnP wr B v L
  kg : Blk wr G 24 #[.int .i64 (n : Int), v]
  kb : Blk wr w.heap.size 24 #[.int .i64 (n : Int), .slice A l.length c]
  kr : Blk wr (w.heap.size + 1) 24 #[.int .i64 0, .slice none 0 0]
  hB : B ≤ wr.heap.size
  bel : Below w.heap.size w wr
  rp : RP wr A l
section
variable {w : World} {n : Nat} {l : List (Int × Int)} {A : Option Addr} {c G B : Nat} {L : List (Int × Int)} {v : Value} {wr : World}
theorem RvS.below (h : RvS w n l A c G B L v wr) {w' : World} (hb : Below wr.heap.size wr w') : RvS w n l A c G B L v w' :=
  ⟨ownsRow_below h.own hb, h.kg.below hb h.kg.lt, h.kb.below hb h.kb.lt, h.kr.below hb h.kr.lt, Nat.le_trans h.hB hb.size, endB h.bel hb, h.rp.below hb⟩
theorem RvS.push (h : RvS w n l A c G B L v wr) (hG : w.heap.size + 1 < G) (hGB : G < B) (hlt : ∀ b o, A = some ⟨b, o, none⟩ → 0 < l.length → b < w.heap.size) {w' : World} {v' : Value} {L' : List (Int × Int)} (ho : OwnP w' B v' L') (hb : Below B wr w') (hg : wr.grownBy w' v.ownBlock) : RvS w n l A c G B L' v' (w'.setCell ⟨G, 1, none⟩ v') :=
  { own := ownsRow_setCell_below ho (a := ⟨G, 1, none⟩) hGB _
    kg := (h.kg.append h.own hg hGB).set_ 1 v'
    kb := (h.kb.append h.own hg (by omega)).far (p := ⟨G, 1, none⟩) (by show w.heap.size ≠ G; omega) _
    kr := (h.kr.append h.own hg (by omega)).far (p := ⟨G, 1, none⟩) (by show w.heap.size + 1 ≠ G; omega) _
    hB := by simp [World.setCell]; exact Nat.le_trans h.hB hb.size
    bel := (h.bel.trans (hb.mono (by omega))).setCell (p := ⟨G, 1, none⟩) (by show w.heap.size ≤ G; omega) _
    rp := fun j hj => by
      obtain ⟨b', o', hA, hc', hd'⟩ := h.rp j hj
      have hlt' := hlt b' o' hA (by omega)
      have hne : ∀ q, (⟨b', q, none⟩ : Addr).block < B := fun q => by show b' < B; omega
      exact ⟨b', o', hA, by rw [World.cell?_setCell_other _ _ _ _ (fun e => by injection e; omega), hb.cell (hne _)]; exact hc', by rw [World.cell?_setCell_other _ _ _ _ (fun e => by injection e; omega), hb.cell (hne _)]; exact hd'⟩ }
end

set_option maxRecDepth 100000 in
set_option maxHeartbeats 4000000 in
theorem r10Reverse_any (A : Option Addr) (N : Int) (l : List (Int × Int)) (c : Nat) (w : World) (hr : RP w A l) (hlen : l.length ≤ 100000) :
    Calls Tryd.prog 34 #[.agg #[.int .i64 N, .slice A l.length c]] w (RetGN (nGn N l) (revL (nGl N l)) w) := by
  go_enter Tryd.func34, Tryd.ntmps34
  go_wp2_with fail
  obtain ⟨W0, hW, k0, k1, hb0, hlt0⟩ := boxed2 w 24 24 (.int .i64 N) (.slice A l.length c) (.int .i64 0) (.slice none 0 0)
  rw [hW]
  have hr0 := hr.below hb0
  have hltA : ∀ b o, A = some ⟨b, o, none⟩ → 0 < (nGl N l).length → b < w.heap.size := fun b o hA hl => hr.lt hA (by unfold nGl at hl; split at hl <;> simp_all)
  clear hW hr
  refine (r10Valid_any _ _ _ _ _ hr0 hlen).mono ?_
  rintro e w1 ⟨A', c', rfl, hr1, hAA, hb⟩
  have hlen' := nGl_len (N := N) hlen
  have j0 := k0.below hb k0.lt
  have j1 := k1.below hb k1.lt
  obtain ⟨a0, a1, a2, a3⟩ := j0.two
  have hbb := endB hb0 hb
  obtain ⟨n, hn, hv⟩ := vld_proper N l hlen
  have Hn := Lib.hid hn
  rw [hn]
  clear hn k0 k1
  generalize nGl N l = l' at *
  have hltA' : ∀ b o, A' = some ⟨b, o, none⟩ → 0 < l'.length → b < w.heap.size := fun b o hA hl => by
    rcases hAA with h | h
    · rw [h] at hA; exact hltA b o hA hl
    · subst h; simp at hl
  have k2 : Blk _ w.heap.size 24 #[.int .i64 (n : Int), .slice A' l'.length c'] := (j0.set_ 0 (.int .i64 (n : Int))).set_ 1 (.slice A' l'.length c')
  have k3 : Blk ((w1.setCell ⟨w.heap.size, 0, none⟩ (.int .i64 (n : Int))).setCell ⟨w.heap.size, 1, none⟩ (.slice A' l'.length c')) (w.heap.size + 1) 24 #[.int .i64 0, .slice none 0 0] := (j1.far (p := ⟨w.heap.size, 0, none⟩) (by simp) _).far (p := ⟨w.heap.size, 1, none⟩) (by simp) _
  have hr2 := hr1.far2 (g := w.heap.size) (fun b o hA hl => Nat.ne_of_lt (hltA' b o hA hl)) (.int .i64 (n : Int)) (.slice A' l'.length c')
  have hE : Below w.heap.size w ((w1.setCell ⟨w.heap.size, 0, none⟩ (.int .i64 (n : Int))).setCell ⟨w.heap.size, 1, none⟩ (.slice A' l'.length c')) := (hbb.setCell (p := ⟨w.heap.size, 0, none⟩) (Nat.le_refl _) _).setCell (p := ⟨w.heap.size, 1, none⟩) (Nat.le_refl _) _
  obtain ⟨W2, hW2⟩ : ∃ W2, (w1.setCell ⟨w.heap.size, 0, none⟩ (.int .i64 (n : Int))).setCell ⟨w.heap.size, 1, none⟩ (.slice A' l'.length c') = W2 := ⟨_, rfl⟩
  rw [hW2] at k2 k3 hr2 hE
  obtain ⟨d0, d1, _, _⟩ := k2.two
  have hGw : w.heap.size + 1 < W2.heap.size := k3.lt
  go_wp2_with fail
  obtain ⟨W3, hW3, kg, hb3, hs3⟩ : ∃ W3, W2.alloc (.cells #[.int .i64 (n : Int), .slice none 0 0] 24) = W3 ∧ Blk W3 W2.heap.size 24 #[.int .i64 (n : Int), .slice none 0 0] ∧ Below W2.heap.size W2 W3 ∧ W3.heap.size = W2.heap.size + 1 := ⟨_, rfl, Blk.new _ _ _, newB _ _, by simp⟩
  rw [hW3]
  obtain ⟨B, hB⟩ : ∃ B, W2.heap.size + 1 = B := ⟨_, rfl⟩
  rw [hB] at hs3
  have hst : RvS w n l' A' c' W2.heap.size B [] (.slice none 0 0) W3 :=
    ⟨OwnP.nil _ _, kg, k2.below hb3 k2.lt, k3.below hb3 k3.lt, by omega, hE.trans (hb3.mono hE.size), hr2.below hb3⟩
  have hGB : W2.heap.size < B := by omega
  clear hW2 hW3 a0 a1 a2 a3 d0 d1 k2 k3 hr2 hr1 hE hAA hltA j0 j1 hb0 hb hbb hr0 hb3 hs3 hB kg
  generalize W2.heap.size = G at *
  have hlenl := hv.1.2.1
  have hn40 := hv.1.1
  have HV := Lib.hid hv; have HltA := Lib.hid hltA'
  have hgn : nGn n l' = n := by unfold nGn; rw [hv.valE]; rfl
  have hgl : nGl n l' = l' := by unfold nGl; rw [hv.valE]; rfl
  have Hgl := Lib.hid hgl
  clear hv hltA' hgn hgl
  go_loopw [4] (fun t wr => ∃ (k : Nat) (v : Value), k ≤ n ∧ t = .int .i64 k ∧ RvS w n l' A' c' G B (rvL l' k) v wr) (fun t _ => n - (intOf t).toNat)
  case atStart => exact ⟨0, _, Nat.zero_le _, rfl, hst⟩
  case round =>
    clear hst
    obtain ⟨k, v, hk, rfl, hst⟩ := hrel
    obtain ⟨d0, d1, _, _⟩ := hst.kb.two
    by_cases hkn : k < n
    case pos =>
      have hatt := r10Attackers_any A' (n : Int) l' c' (k : Int) wr hst.rp hlenl
      rw [Hgl.out] at hatt
      have Hatt := Lib.hid hatt
      clear hatt
      have hkl : (attackersL l' (k : Int)).length ≤ 100000 := by unfold attackersL; rw [List.length_map]; exact Nat.le_trans (List.length_filter_le _ _) hlenl
      have hrl := rvL_len HV.out (k := k + 1) (by omega)
      rw [show rvL l' (k + 1) = rvL l' k ++ (attackersL l' (k : Int)).map (fun x => ((k : Int), x)) from rfl, List.length_append, List.length_map] at hrl
      have hnx : rvL l' k ++ ((attackersL l' (k : Int)).take (attackersL l' (k : Int)).length).map (fun x => ((k : Int), x)) = rvL l' (k + 1) := by rw [List.take_length]; rfl
      have Hnx := Lib.hid hnx
      clear hnx
      have hst0 := hst
      go_wp2_with fail
      refine Hatt.out.mono ?_
      rintro e w5 ⟨A5, c5, rfl, ho5, -, -, hb5⟩
      have hst5 := hst0.below hb5
      have hBw := hst0.hB
      clear d0 d1 Hatt hst hst0 hb5
      generalize attackersL l' (k : Int) = ks at *
      generalize rvL l' k = Lk at *
      generalize hwr : wr.heap.size = B2 at *
      have Hwr := Lib.hid hwr
      clear hwr
      go_wp2_with fail
      go_loopw [22] (fun t wr => ∃ (q : Nat) (v : Value), q ≤ ks.length ∧ t = .int .i64 q ∧ RvS w n l' A' c' G B (Lk ++ (ks.take q).map fun x => ((k : Int), x)) v wr ∧ OwnI wr B2 (.slice A5 ks.length c5) ks) (fun t _ => ks.length - (intOf t).toNat)
      case atStart => exact ⟨0, v, Nat.zero_le _, rfl, by simpa using hst5, ho5⟩
      case round =>
        clear hst5 ho5
        obtain ⟨q, v, hq, rfl, hst, ho5⟩ := hrel
        by_cases hqk : q < ks.length
        case pos =>
          have hri : RI wr A5 ks := ho5.ri
          obtain ⟨b5, o5, rfl, hc5⟩ := hri.at_ hqk
          obtain ⟨f0, f1, f2, f3⟩ := hst.kg.two
          have hll : (Lk ++ (ks.take q).map fun x => ((k : Int), x)).length ≤ 1000000 := by rw [List.length_append, List.length_map, List.length_take]; omega
          have hsn : (Lk ++ (ks.take q).map fun x => ((k : Int), x)) ++ [((k : Int), ks[q])] = Lk ++ (ks.take (q + 1)).map fun x => ((k : Int), x) := by
            rw [List.take_succ_eq_append_getElem hqk, List.map_append]; simp
          have Hsn := Lib.hid hsn; have Hst := Lib.hid hst; have Ho5 := Lib.hid ho5
          obtain ⟨AV, cV, rfl, -, -⟩ := hst.own.form
          have hBw' := hst.hB
          clear hsn hst ho5 hri
          generalize ks[q] = x at *
          generalize hLq : (Lk ++ (ks.take q).map fun x => ((k : Int), x)) = Lq at *
          have HLq := Lib.hid hLq
          clear hLq
          have hkg := fun w5 (hg : wr.grownBy w5 (Value.slice AV Lq.length cV).ownBlock) => ((Hst.out).kg.append (Hst.out).own hg hGB).two
          have Hkg := Lib.hid hkg
          clear hkg
          go_wp2_with (at_builtin; refine wpList_appP2 (by rfl) _ _ (by rfl) wr B _ Lq (k : Int) x (Hst.out).own (by rfl) (by rfl) rfl hll hBw' ?_; intro v' w5 hown5 hb5 hg5; (obtain ⟨AW, cW, rfl, _, _⟩ := OwnP.form hown5); (obtain ⟨m0, m1, m2, m3⟩ := Hkg.out w5 hg5); clear f0 f1 f2 f3)
          have hp := (Hst.out).push hGw hGB HltA.out hown5 hb5 hg5
          have hl1 : (Lq ++ [((k : Int), x)]).length = Lq.length + 1 := by simp
          rw [hl1] at hp
          rw [Hsn.out] at hp
          have ho6 : OwnI w5 B2 (.slice (some ⟨b5, o5, none⟩) ks.length c5) ks := World.ownsRow.kept (Ho5.out) hg5 ((Ho5.out).apartP (Hst.out).own)
          have ho7 := OwnI.farC' ho6 (a := ⟨G, 1, none⟩) (show G < B2 by omega) (.slice AW (Lq.length + 1) cW)
          clear hl1
          go_roundw
          case rel => exact ⟨q + 1, _, by omega, by go_num, hp, ho7⟩
          case measure => simp [intOf]; omega
        case neg =>
          obtain rfl : q = ks.length := by omega
          rw [Hnx.out] at hst
          go_wp2_with fail
          go_roundw
          case rel => exact ⟨k + 1, v, by omega, by go_num, hst⟩
          case measure => simp [intOf]; omega
    case neg =>
      obtain rfl : n = k := by omega
      rw [rvL_rev HV.out] at hst
      obtain ⟨f0, f1, f2, f3⟩ := hst.kg.two
      obtain ⟨r0, r1, r2, r3⟩ := hst.kr.two
      obtain ⟨AV, cV, rfl, hrv, -⟩ := hst.own.form
      have hrl := revL_length l'
      have hlocV : ∀ b o, AV = some ⟨b, o, none⟩ → B ≤ b := fun b o h => by
        have := (World.ownsRow.lt hst.own b (by rw [h]; rfl)).1
        exact this
      have hfr : RP ((wr.setCell ⟨w.heap.size + 1, 0, none⟩ (.int .i64 (n : Int))).setCell ⟨w.heap.size + 1, 1, none⟩ (.slice AV (revL l').length cV)) AV (revL l') := hrv.far2 (fun b o h _ => by have := hlocV b o h; omega) _ _
      have hbf : Below w.heap.size w ((wr.setCell ⟨w.heap.size + 1, 0, none⟩ (.int .i64 (n : Int))).setCell ⟨w.heap.size + 1, 1, none⟩ (.slice AV (revL l').length cV)) := (hst.bel.setCell (p := ⟨w.heap.size + 1, 0, none⟩) (Nat.le_succ _) _).setCell (p := ⟨w.heap.size + 1, 1, none⟩) (Nat.le_succ _) _
      have hkf : Blk ((wr.setCell ⟨w.heap.size + 1, 0, none⟩ (.int .i64 (n : Int))).setCell ⟨w.heap.size + 1, 1, none⟩ (.slice AV (revL l').length cV)) (w.heap.size + 1) 24 #[.int .i64 (n : Int), .slice AV (revL l').length cV] := (hst.kr.set_ 0 (.int .i64 (n : Int))).set_ 1 (.slice AV (revL l').length cV)
      have Hfr := Lib.hid hfr; have Hbf := Lib.hid hbf; have Hkf := Lib.hid hkf
      clear hfr hbf hkf hst hrv hrl
      go_wp2_with fail
      obtain ⟨e0, e1, _, _⟩ := (Hkf.out).two
      refine bodyPost_ret (v := .agg #[.int .i64 (n : Int), .slice AV (revL l').length cV]) (by simp [results, Tryd.results34, go_sem] at e0 e1 ⊢; simp [e0, e1]) rfl ?_
      rw [Hn.out]
      exact ⟨AV, cV, rfl, Hfr.out, fun b o h => by have := hlocV b o h; omega, Hbf.out⟩
end Go.Proofs.YtkflanjlnbdkmaaDoor
