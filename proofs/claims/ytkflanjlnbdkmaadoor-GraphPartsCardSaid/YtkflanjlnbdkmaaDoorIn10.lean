/- ref10.Induced. -/
import Derived.Test.YtkflanjlnbdkmaaDoorInd
import Derived.Test.YtkflanjlnbdkmaaDoorRv10
namespace Go.Proofs.YtkflanjlnbdkmaaDoor
open Go.ChangeShapes Go.WideShapes Go.ChangeAt Go.RowKit

theorem idxP_app {p : Int → Bool} : ∀ (a b : List Int) (k : Nat), idxP p k (a ++ b) = if a.any p then idxP p k a else idxP p (k + a.length) b
  | [], b, k => by simp
  | x :: a, b, k => by
    have e : ∀ y, idxP p k (x :: y) = if p x = true then (k : Int) else idxP p (k + 1) y := fun _ => rfl
    rw [List.cons_append, e, e]
    by_cases h : p x = true
    · simp [h]
    · rw [if_neg h, if_neg h, idxP_app a b (k + 1)]
      have : p x = false := by simpa using h
      simp only [List.any_cons, this, Bool.false_or, List.length_cons]
      rw [show k + 1 + a.length = k + (a.length + 1) by omega]
theorem RI.mu2 {w w' : World} {A : Option Addr} {l : List Int} (h : RI w A l) (hb : Below w.heap.size w w') : RI w' A l := h.below hb
theorem ixL_in {nl : List Int} {v : Int} : (nl.any fun y => v == y) = true ↔ v ∈ nl := by
  rw [List.any_eq_true]
  constructor
  · rintro ⟨y, hy, e⟩
    rw [beq_iff_eq] at e; subst e; exact hy
  · intro h; exact ⟨v, h, by simp⟩
theorem ixL_out {nl : List Int} {v : Int} (h : v ∉ nl) : ixL nl v = -1 := by
  have key : ∀ (l : List Int) (k : Nat), (∀ y ∈ l, (v == y) = false) → idxP (fun y => v == y) k l = -1 := by
    intro l
    induction l with
    | nil => intro k _; rfl
    | cons x l ih =>
      intro k hh
      unfold idxP
      rw [if_neg (by rw [hh x (List.mem_cons_self ..)]; simp)]
      exact ih (k + 1) fun y hy => hh y (List.mem_cons_of_mem _ hy)
  unfold ixL
  exact key nl 0 fun y hy => by rw [beq_eq_false_iff_ne]; rintro rfl; exact h hy
theorem ixL_nodes (f : Nat → Bool) : ∀ (n i : Nat), i < n → f i = true → ixL (nodesB n f) i = (nodesB i f).length
  | 0, i, hi, _ => by omega
  | n + 1, i, hi, hf => by
    rw [nodesB_succ]
    unfold ixL
    rw [idxP_app]
    by_cases e : i = n
    · subst e
      have hno : ((nodesB i f).any fun y => (i : Int) == y) = false := by
        cases h : (nodesB i f).any fun y => (i : Int) == y
        · rfl
        · obtain ⟨j, hj, _, e⟩ := mem_nodesB.1 (ixL_in.1 h); omega
      rw [hno, hf]
      simp [idxP]
    · have hyes : ((nodesB n f).any fun y => (i : Int) == y) = true := ixL_in.2 (mem_nodesB.2 ⟨i, by omega, hf, rfl⟩)
      rw [hyes, if_pos rfl]
      exact ixL_nodes f n i (by omega) hf

/-- the memory of the part -/
structure InS (w : World) (n : Nat) (l : List (Int × Int)) (A : Option Addr) (c gT G B : Nat) (tf : Nat → Int) (N : Int) (L : List (Int × Int)) (v : Value) (wr : World) : Prop where
  own : OwnP wr B v L
  row : Row wr gT n tf
  kg : Blk wr G 24 #[.int .i64 N, v]
  kb : Blk wr w.heap.size 24 #[.int .i64 (n : Int), .slice A l.length c]
  kr : Blk wr (w.heap.size + 1) 24 #[.int .i64 0, .slice none 0 0]
  hB : B ≤ wr.heap.size
  bel : Below w.heap.size w wr
  rp : RP wr A l
section
variable {w : World} {n : Nat} {l : List (Int × Int)} {A : Option Addr} {c gT G B : Nat} {tf : Nat → Int} {N : Int} {L : List (Int × Int)} {v : Value} {wr : World}
theorem RP.farG {w : World} {A : Option Addr} {l : List (Int × Int)} (h : RP w A l) {q : Addr} (hq : ∀ b o, A = some ⟨b, o, none⟩ → 0 < l.length → b ≠ q.block) (x : Value) : RP (w.setCell q x) A l := fun j hj => by
  obtain ⟨b', o', hA, hc', hd'⟩ := h j hj
  have hlt' := hq b' o' hA (by omega)
  exact ⟨b', o', hA, by rw [World.cell?_setCell_other _ _ _ _ (fun e => hlt' (by rw [e]))]; exact hc', by rw [World.cell?_setCell_other _ _ _ _ (fun e => hlt' (by rw [e]))]; exact hd'⟩
theorem InS.setTo (h : InS w n l A c gT G B tf N L v wr) (h1 : w.heap.size + 1 < gT) (h2 : gT < G) (h3 : G < B) (hlt : ∀ b o, A = some ⟨b, o, none⟩ → 0 < l.length → b < w.heap.size) (i : Nat) (x : Int) : InS w n l A c gT G B (upd tf i x) N L v (wr.setCell ⟨gT, i, none⟩ (.int .i64 x)) :=
  { own := ownsRow_setCell_below h.own (a := ⟨gT, i, none⟩) (show gT < B by omega) _
    row := h.row.set i x
    kg := h.kg.far (p := ⟨gT, i, none⟩) (by show G ≠ gT; omega) _
    kb := h.kb.far (p := ⟨gT, i, none⟩) (by show w.heap.size ≠ gT; omega) _
    kr := h.kr.far (p := ⟨gT, i, none⟩) (by show w.heap.size + 1 ≠ gT; omega) _
    hB := by simp [World.setCell]; exact h.hB
    bel := h.bel.setCell (p := ⟨gT, i, none⟩) (by show w.heap.size ≤ gT; omega) _
    rp := h.rp.farG (fun b o hA hl => by have := hlt b o hA hl; show b ≠ gT; omega) _ }
theorem InS.setN (h : InS w n l A c gT G B tf N L v wr) (h1 : w.heap.size + 1 < gT) (h2 : gT < G) (h3 : G < B) (hlt : ∀ b o, A = some ⟨b, o, none⟩ → 0 < l.length → b < w.heap.size) (M : Int) : InS w n l A c gT G B tf M L v (wr.setCell ⟨G, 0, none⟩ (.int .i64 M)) :=
  { own := ownsRow_setCell_below h.own (a := ⟨G, 0, none⟩) (show G < B by omega) _
    row := h.row.far (a := ⟨G, 0, none⟩) (by show gT ≠ G; omega) _
    kg := h.kg.set_ 0 _
    kb := h.kb.far (p := ⟨G, 0, none⟩) (by show w.heap.size ≠ G; omega) _
    kr := h.kr.far (p := ⟨G, 0, none⟩) (by show w.heap.size + 1 ≠ G; omega) _
    hB := by simp [World.setCell]; exact h.hB
    bel := h.bel.setCell (p := ⟨G, 0, none⟩) (by show w.heap.size ≤ G; omega) _
    rp := h.rp.farG (fun b o hA hl => by have := hlt b o hA hl; show b ≠ G; omega) _ }
theorem InS.drewN (h : InS w n l A c gT G B tf N L v wr) (q : Nat) : InS w n l A c gT G B tf N L v (wr.drewN q) :=
  { own := (show OwnP (wr.drewN q) B v L from h.own), row := (show Row (wr.drewN q) gT n tf from h.row), kg := h.kg.drewN q, kb := h.kb.drewN q, kr := h.kr.drewN q, hB := h.hB, bel := below_drewN h.bel q, rp := (show RP (wr.drewN q) A l from h.rp) }
theorem InS.push (h : InS w n l A c gT G B tf N L v wr) (h1 : w.heap.size + 1 < gT) (h2 : gT < G) (h3 : G < B) (hlt : ∀ b o, A = some ⟨b, o, none⟩ → 0 < l.length → b < w.heap.size) {w' : World} {v' : Value} {L' : List (Int × Int)} (ho : OwnP w' B v' L') (hb : Below B wr w') (hg : wr.grownBy w' v.ownBlock) : InS w n l A c gT G B tf N L' v' (w'.setCell ⟨G, 1, none⟩ v') :=
  { own := ownsRow_setCell_below ho (a := ⟨G, 1, none⟩) h3 _
    row := Row.far (rowIs_below h.row hb (by omega)) (a := ⟨G, 1, none⟩) (by show gT ≠ G; omega) _
    kg := (h.kg.append h.own hg h3).set_ 1 v'
    kb := (h.kb.append h.own hg (by omega)).far (p := ⟨G, 1, none⟩) (by show w.heap.size ≠ G; omega) _
    kr := (h.kr.append h.own hg (by omega)).far (p := ⟨G, 1, none⟩) (by show w.heap.size + 1 ≠ G; omega) _
    hB := by simp [World.setCell]; exact Nat.le_trans h.hB hb.size
    bel := (h.bel.trans (hb.mono (by omega))).setCell (p := ⟨G, 1, none⟩) (by show w.heap.size ≤ G; omega) _
    rp := RP.farG (fun j hj => by
      obtain ⟨b', o', hA, hc', hd'⟩ := h.rp j hj
      have hlt' := hlt b' o' hA (by omega)
      have hne : ∀ q, (⟨b', q, none⟩ : Addr).block < B := fun q => by show b' < B; omega
      exact ⟨b', o', hA, by rw [hb.cell (hne _)]; exact hc', by rw [hb.cell (hne _)]; exact hd'⟩) (fun b o hA hl => by have := hlt b o hA hl; show b ≠ G; omega) _ }
end

set_option maxRecDepth 100000 in
set_option maxHeartbeats 4000000 in
theorem r10Induced_any (A : Option Addr) (N : Int) (l : List (Int × Int)) (c : Nat) (X : Option Addr) (s : List Int) (cs : Nat) (w : World) (hr : RP w A l) (hlen : l.length ≤ 100000) (hx : RI w X s) (hsl : s.length ≤ 100000) :
    Calls Tryd.prog 19 #[.agg #[.int .i64 N, .slice A l.length c], .slice X s.length cs] w (RetGN ((nodesB (nGn N l).toNat fun i => inB s i).length : Nat) (indP (nodesB (nGn N l).toNat fun i => inB s i) (nGl N l)) w) := by
  go_enter Tryd.func19, Tryd.ntmps19
  go_wp2_with fail
  obtain ⟨W0, hW, k0, k1, hb0, hlt0⟩ := boxed2 w 24 24 (.int .i64 N) (.slice A l.length c) (.int .i64 0) (.slice none 0 0)
  rw [hW]
  have hr0 := hr.below hb0
  have hltA : ∀ b o, A = some ⟨b, o, none⟩ → 0 < (nGl N l).length → b < w.heap.size := fun b o hA hl => hr.lt hA (by unfold nGl at hl; split at hl <;> simp_all)
  clear hW hr
  refine (r10Valid_any _ _ _ _ _ hr0 hlen).mono ?_
  rintro e w1 ⟨A', c', rfl, hr1, hAA, hb⟩
  have hlen' := nGl_len (N := N) hlen
  have j0 := k0.below hb k0.lt
  have j1 := k1.below hb k1.lt
  obtain ⟨a0, a1, a2, a3⟩ := j0.two
  have hbb := endB hb0 hb
  obtain ⟨n, hn, hv⟩ := vld_proper N l hlen
  have Hnn := Lib.hid (show (nGn N l).toNat = n by rw [hn]; rfl)
  rw [hn]
  clear hn k0 k1
  generalize hgl : nGl N l = l' at *
  have Hgl := Lib.hid hgl
  clear hgl
  have hltA' : ∀ b o, A' = some ⟨b, o, none⟩ → 0 < l'.length → b < w.heap.size := fun b o hA hl => by
    rcases hAA with h | h
    · rw [h] at hA; exact hltA b o hA hl
    · subst h; simp at hl
  have k2 : Blk _ w.heap.size 24 #[.int .i64 (n : Int), .slice A' l'.length c'] := (j0.set_ 0 (.int .i64 (n : Int))).set_ 1 (.slice A' l'.length c')
  have k3 : Blk ((w1.setCell ⟨w.heap.size, 0, none⟩ (.int .i64 (n : Int))).setCell ⟨w.heap.size, 1, none⟩ (.slice A' l'.length c')) (w.heap.size + 1) 24 #[.int .i64 0, .slice none 0 0] := (j1.far (p := ⟨w.heap.size, 0, none⟩) (by simp) _).far (p := ⟨w.heap.size, 1, none⟩) (by simp) _
  have hr2 := hr1.far2 (g := w.heap.size) (fun b o hA hl => Nat.ne_of_lt (hltA' b o hA hl)) (.int .i64 (n : Int)) (.slice A' l'.length c')
  have hE : Below w.heap.size w ((w1.setCell ⟨w.heap.size, 0, none⟩ (.int .i64 (n : Int))).setCell ⟨w.heap.size, 1, none⟩ (.slice A' l'.length c')) := (hbb.setCell (p := ⟨w.heap.size, 0, none⟩) (Nat.le_refl _) _).setCell (p := ⟨w.heap.size, 1, none⟩) (Nat.le_refl _) _
  obtain ⟨W2, hW2⟩ : ∃ W2, (w1.setCell ⟨w.heap.size, 0, none⟩ (.int .i64 (n : Int))).setCell ⟨w.heap.size, 1, none⟩ (.slice A' l'.length c') = W2 := ⟨_, rfl⟩
  rw [hW2] at k2 k3 hr2 hE
  obtain ⟨d0, d1, _, _⟩ := k2.two
  have hGw : w.heap.size + 1 < W2.heap.size := k3.lt
  have hn40 := hv.1.1
  have hmk := run_make_row' (P := Tryd.prog) 25 3 (.int .i64 0) 8 Tryd.underlying25 info_int rfl .i64 .i64 n (by omega) (by omega)
  go_upto_region 4 with fail
  obtain ⟨W3, hW3, hrow, kg, hb3, hs3⟩ : ∃ W3, (W2.alloc (.cells (madeCells #[.int .i64 0] n) 3)).alloc (.cells #[.int .i64 0, .slice none 0 0] 24) = W3 ∧ Row W3 W2.heap.size n (fun _ => 0) ∧ Blk W3 (W2.heap.size + 1) 24 #[.int .i64 0, .slice none 0 0] ∧ Below W2.heap.size W2 W3 ∧ W3.heap.size = W2.heap.size + 2 := by
    refine ⟨_, rfl, World.rowIs.alloc (World.rowIs_made _ _ _ _) _, ?_, ((Below.refl _ _).alloc (Nat.le_refl _) _).alloc (by simp) _, by simp⟩
    have := Blk.new (W2.alloc (.cells (madeCells #[.int .i64 0] n) 3)) 24 #[.int .i64 0, .slice none 0 0]
    simpa using this
  rw [hW3]
  have hst : InS w n l' A' c' W2.heap.size (W2.heap.size + 1) (W2.heap.size + 2) (fun _ => 0) 0 [] (.slice none 0 0) W3 :=
    ⟨OwnP.nil _ _, hrow, kg, k2.below hb3 k2.lt, k3.below hb3 k3.lt, by omega, hE.trans (hb3.mono hE.size), hr2.below hb3⟩
  have hg1 : w.heap.size + 1 < W2.heap.size := hGw
  have hg2 : W2.heap.size < W2.heap.size + 1 := Nat.lt_succ_self _
  have hg3 : W2.heap.size + 1 < W2.heap.size + 2 := Nat.lt_succ_self _
  clear hW2 hW3 a0 a1 a2 a3 d0 d1 k2 k3 hr2 hr1 hE hAA hltA j0 j1 hb0 hb hbb hr0 hb3 hs3 kg hrow hGw hmk
  generalize W2.heap.size + 1 = G at *
  generalize W2.heap.size + 2 = B at *
  generalize W2.heap.size = gT at *
  have hlenl := hv.1.2.1
  have HV := Lib.hid hv; have HltA := Lib.hid hltA'
  obtain ⟨f, hf⟩ : ∃ f : Nat → Bool, (fun i : Nat => inB s i) = f := ⟨_, rfl⟩
  have hfi : ∀ i : Nat, f i = inB s i := fun i => by rw [← hf]
  have Hf := Lib.hid hf; have Hfi := Lib.hid hfi
  have hnl : (nodesB n f).length ≤ 40 := by have := nodesB_length n f; omega
  clear hv hltA' hf hfi
  go_wp2_with fail
  go_loopw [7] (fun t wr => ∃ (i : Nat) (tf : Nat → Int), i ≤ n ∧ t = .int .i64 i ∧ InS w n l' A' c' gT G B tf ((nodesB i f).length : Nat) [] (.slice none 0 0) wr ∧ ∀ x, x < i → tf x = ixL (nodesB n f) x) (fun t _ => n - (intOf t).toNat)
  case atStart => exact ⟨0, _, Nat.zero_le _, rfl, hst, fun x hx => absurd hx (Nat.not_lt_zero x)⟩
  case round =>
    clear hst
    obtain ⟨i, tf, hi, rfl, hst, htf⟩ := hrel
    obtain ⟨d0, d1, _, _⟩ := hst.kb.two
    have Htf := Lib.hid htf
    clear htf
    by_cases hin : i < n
    case pos =>
      have hi0 : (0 : Int) ≤ (i : Int) := by omega
      have hi1 : (i : Int) < (n : Int) := by omega
      have ci := hst.row.cell hin
      have fi := hst.row.frozen i
      have hst2 := hst.setTo hg1 hg2 hg3 HltA.out i (-1)
      have Hst2 := Lib.hid hst2
      have hcl := nodesB_length i f
      clear hst2
      go_upto_region 8 with fail
      have hst2 := Hst2.out
      clear ci fi d0 d1 hst Hst2
      generalize wr.setCell ⟨gT, i, none⟩ (.int .i64 (-1)) = W4 at *
      go_wp2_with fail
      go_loopw [8] (fun t wr => ∃ (q : Nat) (tf2 : Nat → Int), q ≤ s.length ∧ t = .int .i64 q ∧ InS w n l' A' c' gT G B tf2 ((nodesB i f).length : Nat) [] (.slice none 0 0) wr ∧ (∀ x, x < i → tf2 x = ixL (nodesB n f) x) ∧ tf2 i = (if inB (s.take q) i = true then ((nodesB i f).length : Int) else -1)) (fun t _ => s.length - (intOf t).toNat)
      case atStart => exact ⟨0, _, Nat.zero_le _, rfl, hst2, fun x hx => by unfold upd; rw [if_neg (by omega)]; exact Htf.out x hx, by simp [upd, inB]⟩
      case round =>
        clear hst2
        obtain ⟨q, tf2, hq, rfl, hst, htf, hti⟩ := hrel
        have Htf2 := Lib.hid htf; have Hti := Lib.hid hti
        clear htf hti
        by_cases hqs : q < s.length
        case pos =>
          obtain ⟨b5, o5, rfl, hc5⟩ := (hx.mu2 hst.bel).at_ hqs
          have hqs' : (q : Int) < (s.length : Int) := by omega
          have hstp : inB (s.take (q + 1)) i = (inB (s.take q) i || s[q] == (i : Int)) := by
            rw [Bool.eq_iff_iff, Bool.or_eq_true, inB_iff, inB_iff, List.take_succ_eq_append_getElem hqs, List.mem_append, List.mem_singleton, beq_iff_eq]
            exact or_congr Iff.rfl eq_comm
          have Hstp := Lib.hid hstp
          clear hstp
          generalize s[q] = x at *
          by_cases hxi : x = (i : Int)
          case pos =>
            subst hxi
            obtain ⟨e0, e1, _, _⟩ := hst.kg.two
            have ci := hst.row.cell hin
            have fi := hst.row.frozen i
            have hst3 := hst.setTo hg1 hg2 hg3 HltA.out i ((nodesB i f).length : Nat)
            have Hst3 := Lib.hid hst3
            clear hst3 hst
            go_wp2_with fail
            go_roundw
            case rel => exact ⟨q + 1, _, by omega, by go_num, Hst3.out, fun x hx => by unfold upd; rw [if_neg (by omega)]; exact Htf2.out x hx, by rw [Hstp.out]; simp [upd]⟩
            case measure => simp [intOf]; omega
          case neg =>
            have hd : (x == (i : Int)) = false := by rw [beq_eq_false_iff_ne]; exact hxi
            have Hd := Lib.hid hd
            clear hxi
            go_wp2_with fail
            go_roundw
            case rel => exact ⟨q + 1, tf2, by omega, by go_num, hst, Htf2.out, by rw [Hstp.out, Hd.out, Bool.or_false]; exact Hti.out⟩
            case measure => simp [intOf]; omega
        case neg =>
          obtain rfl : q = s.length := by omega
          have hti := Hti.out
          rw [List.take_length, ← Hfi.out i] at hti
          have ci := hst.row.cell hin
          have hsn := nodesB_succ i f
          obtain ⟨b, hb⟩ : ∃ b, f i = b := ⟨_, rfl⟩
          rw [hb] at hti hsn
          have Hb := Lib.hid hb
          clear hb
          cases b
          case false =>
            rw [if_neg (by simp)] at hti
            rw [hti] at ci
            have hix : ixL (nodesB n f) i = -1 := ixL_out (fun hm => by
              obtain ⟨j, _, hj, e⟩ := mem_nodesB.1 hm
              have : i = j := by omega
              rw [← this, Hb.out] at hj; cases hj)
            have Hend := Lib.hid (show ∀ x, x < i + 1 → tf2 x = ixL (nodesB n f) x from fun x hx => by
              by_cases e : x = i
              · rw [e, hti, hix]
              · exact Htf2.out x (by omega))
            have Hsn := Lib.hid hsn
            clear hsn hti hix
            go_wp2_with fail
            go_roundw
            case rel => exact ⟨i + 1, tf2, by omega, by go_num, by rw [Hsn.out]; simp; exact hst, Hend.out⟩
            case measure => simp [intOf]; omega
          case true =>
            rw [if_pos rfl] at hti
            rw [hti] at ci
            obtain ⟨e0, e1, e2, e3⟩ := hst.kg.two
            have hix := ixL_nodes f n i hin Hb.out
            have Hend := Lib.hid (show ∀ x, x < i + 1 → tf2 x = ixL (nodesB n f) x from fun x hx => by
              by_cases e : x = i
              · rw [e, hti, hix]
              · exact Htf2.out x (by omega))
            have hst3 := hst.setN hg1 hg2 hg3 HltA.out (((nodesB i f).length : Int) + 1)
            have hle : ((nodesB (i + 1) f).length : Int) = ((nodesB i f).length : Int) + 1 := by rw [hsn]; simp
            rw [← hle] at hst3
            have Hst3 := Lib.hid hst3; have Hle := Lib.hid hle
            have hpos : (0 : Int) ≤ ((nodesB i f).length : Int) := by omega
            clear hsn hti hix hst3 hst hle
            generalize (nodesB i f).length = cn at *
            go_wp2_with fail
            rw [Hle.out] at Hst3
            go_roundw
            case rel => exact ⟨i + 1, tf2, by omega, by go_num, by rw [Hle.out]; exact Hst3.out, Hend.out⟩
            case measure => simp [intOf]; omega
    case neg =>
    obtain rfl : n = i := by omega
    clear d0 
    have d0 := hst.kb.two.1
    generalize hNL : nodesB n f = NL at *
    have HNL := Lib.hid hNL
    clear hNL
    generalize hcn : NL.length = cn at *
    have Hcn := Lib.hid hcn
    clear hcn
    have hz : indP NL (l'.take 0) = [] := rfl
    have hst0 : InS w n l' A' c' gT G B tf (cn : Nat) (indP NL (l'.take 0)) (.slice none 0 0) wr := by rw [hz]; exact hst
    clear hst hz
    go_wp2_with fail
    clear d0 d1
    go_loopw [9] (fun t wr => ∃ (k : Nat) (v : Value), k ≤ l'.length ∧ t = .int .i64 k ∧ InS w n l' A' c' gT G B tf (cn : Nat) (indP NL (l'.take k)) v wr) (fun t _ => l'.length - (intOf t).toNat)
    case atStart => exact ⟨0, _, Nat.zero_le _, rfl, hst0⟩
    case round =>
      clear hst0
      obtain ⟨k, v, hk, rfl, hst⟩ := hrel
      obtain ⟨d0, d1, _, _⟩ := hst.kb.two
      by_cases hkl : k < l'.length
      case pos =>
        obtain ⟨b5, o5, rfl, hx5, hy5⟩ := hst.rp.at_ hkl
        have hrg := HV.out.1.2.2 _ (List.getElem_mem hkl)
        obtain ⟨a, ha⟩ := Int.eq_ofNat_of_zero_le hrg.1
        obtain ⟨d, hd⟩ := Int.eq_ofNat_of_zero_le hrg.2.2.1
        have han : a < n := by omega
        have hdn : d < n := by omega
        have hhit := @indP_hit NL l' k hkl
        have hmis := @indP_miss NL l' k hkl
        rw [ha, hd] at hhit hmis
        rw [ha] at hx5
        rw [hd] at hy5
        have ca := hst.row.cell han
        have cd := hst.row.cell hdn
        rw [Htf.out a han] at ca
        rw [Htf.out d hdn] at cd
        have ha0 : (0 : Int) ≤ (a : Int) := by omega
        have ha1 : (a : Int) < (n : Int) := by omega
        have hd0 : (0 : Int) ≤ (d : Int) := by omega
        have hd1 : (d : Int) < (n : Int) := by omega
        have hkl' : (k : Int) < (l'.length : Int) := by omega
        have hll : (indP NL (l'.take k)).length ≤ 100000 := by have := indP_len NL (l'.take k); rw [List.length_take] at this; omega
        have Hhit := Lib.hid hhit; have Hmis := Lib.hid hmis; have Hst := Lib.hid hst
        clear hrg ha hd hhit hmis hst
        generalize ixL NL (a : Int) = ia at *
        generalize ixL NL (d : Int) = id at *
        generalize hLk : indP NL (l'.take k) = Lk at *
        have HLk := Lib.hid hLk
        clear hLk
        by_cases hia : 0 ≤ ia
        case neg =>
          have h1 : decide ((0 : Int) ≤ ia) = false := by simpa using hia
          have Hn := Lib.hid (Hmis.out (fun h => hia h.1))
          clear hia
          go_wp2_with fail
          go_quiet (fail)
          clear ca cd hx5 hy5
          have hst2 := (Hst.out).drewN nq
          go_wp2_with fail
          go_roundw
          case rel => exact ⟨k + 1, v, by omega, by go_num, by rw [Hn.out]; exact hst2⟩
          case measure => simp [intOf]; omega
        case pos =>
        by_cases hid : 0 ≤ id
        case neg =>
          have h1 : decide ((0 : Int) ≤ id) = false := by simpa using hid
          have Hn := Lib.hid (Hmis.out (fun h => hid h.2))
          clear hid
          go_wp2_with fail
          go_quiet (fail)
          clear ca cd hx5 hy5
          have hst2 := (Hst.out).drewN nq
          go_wp2_with fail
          go_roundw
          case rel => exact ⟨k + 1, v, by omega, by go_num, by rw [Hn.out]; exact hst2⟩
          case measure => simp [intOf]; omega
        case pos =>
          have Hn := Lib.hid (Hhit.out hia hid)
          go_upto_region 18 with fail
          go_quiet (fail)
          clear ca cd hx5 hy5
          have hst2 := (Hst.out).drewN nq
          clear d0 d1
          generalize wr.drewN nq = W5 at *
          obtain ⟨e0, e1, e2, e3⟩ := hst2.kg.two
          obtain ⟨AV, cV, rfl, -, -⟩ := hst2.own.form
          have hBw' := hst2.hB
          have hkg := fun w5 (hg : W5.grownBy w5 (Value.slice AV Lk.length cV).ownBlock) => (hst2.kg.append hst2.own hg hg3).two
          have Hkg := Lib.hid hkg; have Hst2 := Lib.hid hst2
          clear hkg hst2 Hst
          go_wp2_with (at_builtin; refine wpList_appP2 (by rfl) _ _ (by rfl) W5 B _ Lk ia id (Hst2.out).own (by rfl) (by rfl) rfl (by omega) hBw' ?_; intro v' w5 hown5 hb5 hg5; (obtain ⟨AW, cW, rfl, _, _⟩ := OwnP.form hown5); (obtain ⟨m0, m1, m2, m3⟩ := Hkg.out w5 hg5); clear e0 e1 e2 e3)
          have hp := (Hst2.out).push hg1 hg2 hg3 HltA.out hown5 hb5 hg5
          have hl1 : (Lk ++ [(ia, id)]).length = Lk.length + 1 := by simp
          rw [hl1] at hp
          rw [← Hn.out] at hp
          clear hl1
          go_roundw
          case rel => exact ⟨k + 1, _, by omega, by go_num, hp⟩
          case measure => simp [intOf]; omega
      case neg =>
        have hfull : l'.take k = l' := List.take_of_length_le (by omega)
        rw [hfull] at hst
        obtain ⟨f0, f1, f2, f3⟩ := hst.kg.two
        obtain ⟨r0, r1, r2, r3⟩ := hst.kr.two
        obtain ⟨AV, cV, rfl, hrv, -⟩ := hst.own.form
        have hlocV : ∀ b o, AV = some ⟨b, o, none⟩ → B ≤ b := fun b o h => (World.ownsRow.lt hst.own b (by rw [h]; rfl)).1
        have hfr : RP ((wr.setCell ⟨w.heap.size + 1, 0, none⟩ (.int .i64 (cn : Int))).setCell ⟨w.heap.size + 1, 1, none⟩ (.slice AV (indP NL l').length cV)) AV (indP NL l') := hrv.far2 (fun b o h _ => by have := hlocV b o h; omega) _ _
        have hbf : Below w.heap.size w ((wr.setCell ⟨w.heap.size + 1, 0, none⟩ (.int .i64 (cn : Int))).setCell ⟨w.heap.size + 1, 1, none⟩ (.slice AV (indP NL l').length cV)) := (hst.bel.setCell (p := ⟨w.heap.size + 1, 0, none⟩) (Nat.le_succ _) _).setCell (p := ⟨w.heap.size + 1, 1, none⟩) (Nat.le_succ _) _
        have hkf : Blk ((wr.setCell ⟨w.heap.size + 1, 0, none⟩ (.int .i64 (cn : Int))).setCell ⟨w.heap.size + 1, 1, none⟩ (.slice AV (indP NL l').length cV)) (w.heap.size + 1) 24 #[.int .i64 (cn : Int), .slice AV (indP NL l').length cV] := (hst.kr.set_ 0 (.int .i64 (cn : Int))).set_ 1 (.slice AV (indP NL l').length cV)
        have Hfr := Lib.hid hfr; have Hbf := Lib.hid hbf; have Hkf := Lib.hid hkf
        clear hfr hbf hkf hst hrv hfull
        go_wp2_with fail
        obtain ⟨e0, e1, _, _⟩ := (Hkf.out).two
        refine bodyPost_ret (v := .agg #[.int .i64 (cn : Int), .slice AV (indP NL l').length cV]) (by simp [results, Tryd.results19, go_sem] at e0 e1 ⊢; simp [e0, e1]) rfl ?_
        rw [Hnn.out, Hgl.out, Hf.out, HNL.out, Hcn.out]
        exact ⟨AV, cV, rfl, Hfr.out, fun b o h => by have := hlocV b o h; omega, Hbf.out⟩
end Go.Proofs.YtkflanjlnbdkmaaDoor
