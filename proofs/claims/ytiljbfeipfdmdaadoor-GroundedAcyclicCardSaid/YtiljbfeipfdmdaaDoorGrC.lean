/- graph: masks, list, Attacked. -/
import Derived.Test.YtiljbfeipfdmdaaDoorGrB
import Derived.Test.YtiljbfeipfdmdaaDoorRowA
import Derived.Test.YtiljbfeipfdmdaaDoorAdm
import Derived.BigRegion
import Derived.Test.YtiljbfeipfdmdaaDoorGen
namespace Go.Proofs.YtiljbfeipfdmdaaDoor
open Go.ChangeShapes Go.WideShapes Go.ChangeAt Go.RowKit

/-- the nodes that node i attacks, as a set -/
def mkM (l : List (Int × Int)) (i : Nat) : Nat := l.foldl (fun z p => if p.1.toNat = i then z ||| 1 <<< p.2.toNat else z) 0
theorem mkM_snoc (l : List (Int × Int)) (p : Int × Int) (i : Nat) : mkM (l ++ [p]) i = if p.1.toNat = i then mkM l i ||| 1 <<< p.2.toNat else mkM l i := by simp [mkM, List.foldl_append]
theorem testBit_mkM (l : List (Int × Int)) (i j : Nat) : (mkM l i).testBit j = l.any (fun p => decide (p.1.toNat = i) && decide (p.2.toNat = j)) := by
  suffices h : ∀ z, (l.foldl (fun z (p : Int × Int) => if p.1.toNat = i then z ||| 1 <<< p.2.toNat else z) z).testBit j = (z.testBit j || l.any (fun p => decide (p.1.toNat = i) && decide (p.2.toNat = j))) by
    have := h 0; simpa [mkM] using this
  induction l with
  | nil => intro z; simp
  | cons p l ih =>
    intro z
    rw [List.foldl_cons, List.any_cons, ih]
    by_cases h : p.1.toNat = i
    · rw [if_pos h, Nat.testBit_or, Nat.one_shiftLeft, Nat.testBit_two_pow, Bool.or_assoc]; simp [h]
    · rw [if_neg h]; simp [h]
theorem mkM_lt {n : Nat} {l : List (Int × Int)} (h : ∀ p ∈ l, p.2.toNat < n) (i : Nat) : mkM l i < 2 ^ n := by
  apply Nat.lt_pow_two_of_testBit
  intro j hj
  rw [testBit_mkM, List.any_eq_false]
  intro p hp
  have := h p hp
  simp; intro _; omega
theorem has_mkM {n : Nat} {l : List (Int × Int)} (hv : InR n l) (i j : Nat) : has (mkM l i) j ↔ att l i j := by
  unfold has
  rw [testBit_mkM, List.any_eq_true]
  constructor
  · rintro ⟨p, hp, h⟩
    simp only [Bool.and_eq_true, decide_eq_true_eq] at h
    have h1 := hv.2.2 p hp
    have e1 : ((i : Nat) : Int) = p.1 := by omega
    have e2 : ((j : Nat) : Int) = p.2 := by omega
    unfold att; rw [e1, e2]; exact hp
  · intro h
    exact ⟨_, h, by simp⟩

/-- the call returns a new slice of n sets -/
def RetM (n : Nat) (f : Nat → Nat) (w : World) : Ending → World → Prop := fun e w' => ∃ g, e = .returned (.slice (some ⟨g, 0, none⟩) n n) ∧ w.heap.size ≤ g ∧ w'.rowIs g 68 n (fun i => .int .u64 (f i : Nat)) ∧ Below w.heap.size w w'

theorem boxedRow (w : World) (t u : TypeId) (x y z : Value) (n : Nat) : ∃ W0, (w.alloc (.cells #[x, y] t)).alloc (.cells (madeCells #[z] n) u) = W0 ∧ Blk W0 w.heap.size t #[x, y] ∧ W0.rowIs (w.heap.size + 1) u n (fun _ => z) ∧ Below w.heap.size w W0 ∧ w.heap.size + 1 < W0.heap.size := by
  refine ⟨_, rfl, (Blk.new w t _).alloc _, ?_, ((Below.refl _ _).alloc (Nat.le_refl _) _).alloc (by simp) _, by simp⟩
  have := World.rowIs_made (w.alloc (.cells #[x, y] t)) z n u
  simpa using this

set_option maxRecDepth 100000 in
set_option maxHeartbeats 2000000 in
theorem masks_any (A : Option Addr) (n : Nat) (l : List (Int × Int)) (c : Nat) (w : World) (hr : RP w A l) (hv : InR n l) :
    Calls Tryd.prog 73 #[.agg #[.int .i64 (n : Int), .slice A l.length c]] w (RetM n (mkM l) w) := by
  have hn := hv.1; have hlen := hv.2.1
  have hmk := run_make_row' (P := Tryd.prog) 66 68 (.int .u64 0) 8 Tryd.underlying66 info_u64 rfl .i64 .i64 n (by omega) (by omega)
  go_enter Tryd.func73, Tryd.ntmps73
  go_wp2_with fail
  obtain ⟨WM, hW, k0, hrow, hb0, hlt0⟩ := boxedRow w 27 68 (.int .i64 n) (.slice A l.length c) (.int .u64 0) n
  rw [hW]
  clear hW hmk
  obtain ⟨c0, c1, _, _⟩ := k0.two
  go_loopw [12] (fun i wr => ∃ k : Nat, k ≤ l.length ∧ i = .int .i64 k ∧ wr.rowIs (w.heap.size + 1) 68 n (fun i => .int .u64 (mkM (l.take k) i : Nat)) ∧ Below (w.heap.size + 1) WM wr) (fun i _ => l.length - (intOf i).toNat)
  case atStart => exact ⟨0, by omega, rfl, hrow.congr (fun i _ => by simp [mkM]), Below.refl _ _⟩
  case round =>
    obtain ⟨k, hk, rfl, hrw, hbl⟩ := hrel
    have hbw : Below w.heap.size w wr := hb0.trans (hbl.mono (Nat.le_succ _))
    have hltr := Nat.lt_of_lt_of_le hlt0 hbl.size
    by_cases hlt : k < l.length
    case neg =>
      go_wp2_with fail
      go_ret
      have e := hrw
      rw [List.take_of_length_le (by omega)] at e
      exact ⟨w.heap.size + 1, rfl, Nat.le_succ _, e, hbw⟩
    case pos =>
    obtain ⟨b, o, rfl, hc, hd⟩ := (hr.below hbw).at_ hlt
    obtain ⟨v1, v2, v3, v4⟩ := hv.2.2 l[k] (List.getElem_mem _)
    obtain ⟨W0, hW, e0, e1, hbW, hltW⟩ := boxed wr 46 (.int .i64 l[k].1) (.int .i64 l[k].2)
    obtain ⟨a, ha⟩ := Int.eq_ofNat_of_zero_le v1
    obtain ⟨z, hz⟩ := Int.eq_ofNat_of_zero_le v3
    rw [ha] at v1 v2 e0 hc hW; rw [hz] at v3 v4 e1 hd hW
    have hpk : l[k] = ((a : Int), (z : Int)) := Prod.ext ha hz
    have Hpk := Lib.hid hpk
    have hrW := rowIs_new hrw hbW
    have han : a < n := by omega
    have hca := World.rowIs.cell hrW han
    have hfa := World.rowIs.frozen hrW a
    have Hrw := Lib.hid hrW
    clear hrW hrw hrow hpk ha hz
    go_wp2_with fail
    clear hW
    go_region
    have hz : mkM (l.take k) a < 18446744073709551616 := u64_of hn (mkM_lt (n := n) (fun p hp => by have := hv.2.2 p (List.mem_of_mem_take hp); omega) a)
    have h1 := u64_one_shl z (by omega)
    rw [Int.one_mul] at h1
    have h3 : 1 <<< z < 18446744073709551616 := by rw [Nat.one_shiftLeft]; exact two_pow_u64 (by omega)
    have hval : bits .or .u64 ((mkM (l.take k) a : Nat) : Int) (IntKind.u64.wrap (2 ^ z)) = ((mkM (l.take k) a ||| 1 <<< z : Nat) : Int) := by rw [h1, u64_or_nat _ _ hz h3]
    rw [hval]
    have hset := World.rowIs.set Hrw.out a (.int .u64 ((mkM (l.take k) a ||| 1 <<< z : Nat) : Int))
    have hbl2 : Below (w.heap.size + 1) WM (W0.setCell ⟨w.heap.size + 1, a, none⟩ (.int .u64 ((mkM (l.take k) a ||| 1 <<< z : Nat) : Int))) := (hbl.trans (hbW.mono (Nat.le_of_lt hltr))).setCell (p := ⟨w.heap.size + 1, a, none⟩) (Nat.le_refl _) _
    have Hset := Lib.hid hset
    clear hz h1 h3 hval hset
    generalize W0.setCell ⟨w.heap.size + 1, a, none⟩ (.int .u64 ((mkM (l.take k) a ||| 1 <<< z : Nat) : Int)) = W2 at Hset hbl2 ⊢
    go_wp2_with fail
    go_roundw
    case rel =>
      refine ⟨k + 1, by omega, by go_num, ?_, hbl2.drew⟩
      refine World.rowIs.drew (Hset.out.congr fun i hi => ?_)
      rw [List.take_succ_eq_append_getElem hlt, mkM_snoc, Hpk.out]
      by_cases e : i = a
      · subst e; simp
      · rw [if_neg e, if_neg (fun h => e (by simpa using h.symm))]
    case measure => simp [intOf]; omega

/-- the loop that lists a set -/
theorem glist_any (m : Nat) (hm : m < 18446744073709551616) (w : World) (hT : Tab w) :
    Calls Tryd.prog 74 #[.int .u64 (m : Int)] w (RetI (nodesB 64 m.testBit) w) := by
  have Hm := Lib.hid hm; clear hm
  go_enter Tryd.func74, Tryd.ntmps74
  go_wp2
  go_loopw [0, 3] (fun s v wr => ∃ (z : Nat) (out : List Int), s = .int .u64 z ∧ z < 18446744073709551616 ∧ OwnI wr w.heap.size v out ∧ out ++ nodesB 64 z.testBit = nodesB 64 m.testBit ∧ Below w.heap.size w wr) (fun s _ _ => (intOf s).toNat)
  case atStart => exact ⟨m, [], rfl, Hm.out, OwnI.nil _ _, rfl, Below.refl _ _⟩
  case round =>
    obtain ⟨z, out, rfl, hz, hown, hsum, hbl⟩ := hrel
    have Hs := Lib.hid hsum; have Hz := Lib.hid hz; have Hown := Lib.hid hown; clear hsum hz hown
    by_cases h0 : z = 0
    · subst h0
      go_wp2
      go_ret
      refine RetI.mk ?_ hbl
      have e : nodesB 64 m.testBit = out := by rw [← Hs.out, nodesB_zero, List.append_nil]
      rw [e]; exact Hown.out
    · have hne : ((z : Int) != 0) = true := by simp; omega
      have H0 := Lib.hid h0; clear h0
      have hlen : out.length ≤ 64 := by
        have h1 : (out ++ nodesB 64 z.testBit).length ≤ 64 := by rw [Hs.out]; exact nodesB_length _ _
        rw [List.length_append] at h1; omega
      have hctz := (low_bit z H0.out Hz.out).1
      have e1 : IntKind.u64.wrap ((z : Int) - 1) = ((z - 1 : Nat) : Int) := by have := H0.out; have := Hz.out; rw [IntKind.wrap_u64]; omega
      have e2 : bits .and .u64 (z : Int) ((z - 1 : Nat) : Int) = ((dropLow z : Nat) : Int) := u64_and_nat z (z - 1) Hz.out (by have := Hz.out; omega)
      go_wp2_with (first
        | (go_at_call 98; refine (tz_any z Hz.out H0.out _ (hT.below hbl)).mono ?_; rintro e w' ⟨rfl, rfl⟩)
        | (at_builtin; refine wpList_appI (by rfl) _ _ (by rfl) wr w.heap.size _ out (Lib.ctz 64 z : Nat) Hown.out (by rfl) (by rfl) (by omega) hbl.size ?_; intro v' w1 hown' hb1 _))
      go_roundw
      case rel =>
        refine ⟨dropLow z, out ++ [(Lib.ctz 64 z : Int)], rfl, ?_, hown', ?_, hbl.trans hb1⟩
        · have := dropLow_lt z H0.out; have := Hz.out; omega
        · rw [List.append_assoc, ← Hs.out, nodesB_low z H0.out Hz.out]; rfl
      case measure => have := dropLow_lt z H0.out; simp [intOf]; omega

/-- a graph that is accepted is valid -/
theorem scanV_ok {N : Int} : ∀ (l : List (Int × Int)) (o : Option (Int × Int)), scanV N o l = 0 → (∀ p ∈ l, okP N p) ∧ l.Pairwise ltP ∧ (∀ q, o = some q → ∀ p ∈ l, ltP q p)
  | [], o, _ => ⟨(fun _ h => by cases h), List.Pairwise.nil, (fun _ _ _ h => by cases h)⟩
  | p :: l, none, h => by
    rw [scanV] at h
    split at h
    · rename_i ho
      obtain ⟨h1, h2, h3⟩ := scanV_ok l _ h
      refine ⟨fun q hq => ?_, List.pairwise_cons.2 ⟨fun q hq => h3 p rfl q hq, h2⟩, fun q hq => by cases hq⟩
      rcases List.mem_cons.1 hq with rfl | hq
      · exact ho
      · exact h1 q hq
    · cases h
  | p :: l, some q, h => by
    rw [scanV] at h
    split at h
    · rename_i ho
      split at h
      · rename_i hlt
        obtain ⟨h1, h2, h3⟩ := scanV_ok l _ h
        refine ⟨fun r hr => ?_, List.pairwise_cons.2 ⟨fun r hr => h3 p rfl r hr, h2⟩, fun r hr s hs => ?_⟩
        · rcases List.mem_cons.1 hr with rfl | hr
          · exact ho
          · exact h1 r hr
        · injection hr with hr
          subst hr
          rcases List.mem_cons.1 hs with rfl | hs
          · exact hlt
          · have := h3 p rfl s hs
            unfold ltP at *; omega
      · cases h
    · cases h
theorem vld_of_valE {N : Int} {l : List (Int × Int)} (h : valE N l = 0) (hlen : l.length ≤ 100000) : ∃ n : Nat, N = n ∧ Vld n l := by
  unfold valE at h
  split at h
  · cases h
  · rename_i hN
    obtain ⟨h1, h2, _⟩ := scanV_ok l none h
    refine ⟨N.toNat, by omega, ⟨by omega, hlen, fun p hp => ?_⟩, h2⟩
    have := h1 p hp
    unfold okP at this
    omega
/-- the graph that proper leaves is valid -/
theorem vld_proper (N : Int) (l : List (Int × Int)) (hlen : l.length ≤ 100000) : ∃ n : Nat, nGn N l = n ∧ Vld n (nGl N l) := by
  unfold nGn nGl
  by_cases h : valE N l = 0
  · rw [if_pos h, if_pos h]; exact vld_of_valE h hlen
  · rw [if_neg h, if_neg h]; exact ⟨0, rfl, ⟨by omega, by simp, (fun _ h => by cases h)⟩, List.Pairwise.nil⟩
theorem ltP_trans {p q r : Int × Int} (h : ltP p q) (k : ltP q r) : ltP p r := by unfold ltP at *; omega
theorem ltP_irrefl (p : Int × Int) : ¬ ltP p p := by unfold ltP; omega
theorem attackedL_sorted {l : List (Int × Int)} (h : l.Pairwise ltP) (i : Int) : (attackedL l i).Pairwise (· < ·) := by
  unfold attackedL
  rw [List.pairwise_map]
  refine List.Pairwise.imp_of_mem ?_ (h.filter _)
  intro a b ha hb hab
  have h1 := (List.mem_filter.1 ha).2
  have h2 := (List.mem_filter.1 hb).2
  simp at h1 h2
  unfold ltP at hab; omega
theorem attackersL_sorted {l : List (Int × Int)} (h : l.Pairwise ltP) (i : Int) : (attackersL l i).Pairwise (· < ·) := by
  unfold attackersL
  rw [List.pairwise_map]
  refine List.Pairwise.imp_of_mem ?_ (h.filter _)
  intro a b ha hb hab
  have h1 := (List.mem_filter.1 ha).2
  have h2 := (List.mem_filter.1 hb).2
  simp at h1 h2
  unfold ltP at hab; omega
theorem nodes_mkM {n : Nat} {l : List (Int × Int)} (hv : Vld n l) (i : Nat) : nodesB 64 (mkM l i).testBit = attackedL l i := by
  refine sorted_ext _ _ (nodesB_sorted _ _) (attackedL_sorted hv.2 _) fun x => ?_
  rw [mem_nodesB]
  constructor
  · rintro ⟨j, _, hj, rfl⟩
    exact mem_attackedL.2 ((has_mkM hv.1 i j).1 hj)
  · intro h
    obtain ⟨a, rfl, ha, hat⟩ := attacked_nat hv.1 h
    exact ⟨a, by have := hv.1.1; omega, (has_mkM hv.1 i a).2 hat, rfl⟩
theorem attackedL_out {n : Nat} {l : List (Int × Int)} (hv : InR n l) {i : Int} (h : i < 0 ∨ n ≤ i) : attackedL l i = [] := by
  cases hb : attackedL l i with
  | nil => rfl
  | cons x r =>
    have : x ∈ attackedL l i := by rw [hb]; exact List.mem_cons_self ..
    have := hv.2.2 _ (mem_attackedL.1 this)
    simp at this; omega
theorem attackersL_out {n : Nat} {l : List (Int × Int)} (hv : InR n l) {i : Int} (h : i < 0 ∨ n ≤ i) : attackersL l i = [] := by
  cases hb : attackersL l i with
  | nil => rfl
  | cons x r =>
    have : x ∈ attackersL l i := by rw [hb]; exact List.mem_cons_self ..
    have := hv.2.2 _ (mem_attackersL.1 this)
    simp at this; omega

set_option maxHeartbeats 2000000 in
theorem gAttacked_any (A : Option Addr) (N : Int) (l : List (Int × Int)) (c : Nat) (i : Int) (w : World) (hr : RP w A l) (hlen : l.length ≤ 100000) (hT : Tab w) :
    Calls Tryd.prog 63 #[.agg #[.int .i64 N, .slice A l.length c], .int .i64 i] w (RetI (attackedL (nGl N l) i) w) := by
  go_enter Tryd.func63, Tryd.ntmps63
  go_wp2_with fail
  obtain ⟨W0, hW, c0, c1, hb0, hlt0⟩ := boxed w 27 (.int .i64 N) (.slice A l.length c)
  have k0 : Blk W0 w.heap.size 27 #[.int .i64 N, .slice A l.length c] := by rw [← hW]; exact Blk.new w _ _
  rw [hW]
  have hr0 := hr.below hb0
  have hltA : ∀ b o, A = some ⟨b, o, none⟩ → 0 < (nGl N l).length → b ≠ w.heap.size := fun b o hA hl => by have := hr.lt hA (by unfold nGl at hl; split at hl <;> simp_all); omega
  clear hW hr c0 c1
  refine (proper_any _ _ _ _ _ hr0 hlen).mono ?_
  rintro e w1 ⟨A', c', rfl, hr1, hAA, hb⟩
  have hlen' := nGl_len (N := N) hlen
  have k1 := k0.below hb k0.lt
  obtain ⟨a0, a1, a2, a3⟩ := k1.two
  have hbb := endB hb0 hb
  obtain ⟨n, hn, hv⟩ := vld_proper N l hlen
  rw [hn]
  clear hn
  generalize nGl N l = l' at *
  have hltA' : ∀ b o, A' = some ⟨b, o, none⟩ → 0 < l'.length → b ≠ w.heap.size := fun b o hA hl => by
    rcases hAA with h | h
    · rw [h] at hA
      have := hltA b o hA
      omega
    · subst h; simp at hl
  have k2 : Blk _ w.heap.size 27 #[.int .i64 (n : Int), .slice A' l'.length c'] := (k1.set_ 0 (.int .i64 (n : Int))).set_ 1 (.slice A' l'.length c')
  have hr2 := hr1.far2 hltA' (.int .i64 (n : Int)) (.slice A' l'.length c')
  have hE : Below w.heap.size w ((w1.setCell ⟨w.heap.size, 0, none⟩ (.int .i64 (n : Int))).setCell ⟨w.heap.size, 1, none⟩ (.slice A' l'.length c')) := (hbb.setCell (p := ⟨w.heap.size, 0, none⟩) (Nat.le_refl _) _).setCell (p := ⟨w.heap.size, 1, none⟩) (Nat.le_refl _) _
  obtain ⟨W2, hW2⟩ : ∃ W2, (w1.setCell ⟨w.heap.size, 0, none⟩ (.int .i64 (n : Int))).setCell ⟨w.heap.size, 1, none⟩ (.slice A' l'.length c') = W2 := ⟨_, rfl⟩
  rw [hW2] at k2 hr2 hE
  have d0 : W2.cell? ⟨w.heap.size, 0, none⟩ = some (.int .i64 (n : Int)) := k2.two.1
  have d1 : W2.cell? ⟨w.heap.size, 1, none⟩ = some (.slice A' l'.length c') := k2.two.2.1
  have hTw := hT.below hE
  have hn40 := hv.1.1
  by_cases hi : i < 0
  · have Ho := Lib.hid (attackedL_out hv.1 (.inl hi))
    go_wp2_with fail
    go_ret
    rw [Ho.out]
    exact RetI.nil hE
  have hi' : 0 ≤ i := by omega
  clear hi
  by_cases hi2 : (n : Int) ≤ i
  · have Ho := Lib.hid (attackedL_out hv.1 (.inr hi2))
    go_wp2_with fail
    go_ret
    rw [Ho.out]
    exact RetI.nil hE
  have hi2' : i < n := by omega
  clear hi2
  obtain ⟨j, rfl⟩ := Int.eq_ofNat_of_zero_le hi'
  go_wp2_with fail
  refine (masks_any A' n l' c' W2 hr2 hv.1).mono ?_
  rintro e w3 ⟨g, rfl, hg, hrow, hb3⟩
  have hcj := hrow.cell (show j < n by omega)
  have hmj : mkM l' j < 18446744073709551616 := u64_of hn40 (mkM_lt (n := n) (fun p hp => by have := hv.1.2.2 p hp; omega) j)
  have Hmj := Lib.hid hmj
  clear hW2 hrow
  go_wp2_with fail
  refine (glist_any (mkM l' j) Hmj.out w3 (hTw.below hb3)).mono ?_
  rintro e w4 ⟨A5, c5, rfl, ho, hri, hnn, hb4⟩
  go_wp2_with fail
  go_ret
  have Hn := nodes_mkM hv j
  rw [← Hn]
  exact ⟨A5, c5, rfl, ho.mono (Nat.le_trans hE.size hb3.size), hri, hnn, hE.trans ((endB hb3 hb4).mono hE.size)⟩
end Go.Proofs.YtiljbfeipfdmdaaDoor
