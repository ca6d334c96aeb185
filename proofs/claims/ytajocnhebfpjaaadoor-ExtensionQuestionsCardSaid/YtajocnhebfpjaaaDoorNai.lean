/- search.Naive: list, choose. -/
import Derived.Test.YtajocnhebfpjaaaDoorSch4
namespace Go.Proofs.YtajocnhebfpjaaaDoor
open Go.ChangeShapes Go.WideShapes Go.ChangeAt Go.RowKit

/-- the loop that lists a set -/
theorem slist_any (m : Nat) (hm : m < 18446744073709551616) (w : World) (hT : Tab w) :
    Calls Tryd.prog 106 #[.int .u64 (m : Int)] w (RetI (nodesB 64 m.testBit) w) := by
  have Hm := Lib.hid hm; clear hm
  go_enter Tryd.func106, Tryd.ntmps106
  go_wp2
  go_loopw [0, 3] (fun s v wr => ∃ (z : Nat) (out : List Int), s = .int .u64 z ∧ z < 18446744073709551616 ∧ OwnI wr w.heap.size v out ∧ out ++ nodesB 64 z.testBit = nodesB 64 m.testBit ∧ Below w.heap.size w wr) (fun s _ _ => (intOf s).toNat)
  case atStart => exact ⟨m, [], rfl, Hm.out, OwnI.nil _ _, rfl, Below.refl _ _⟩
  case round =>
    obtain ⟨z, out, rfl, hz, hown, hsum, hbl⟩ := hrel
    have Hs := Lib.hid hsum; have Hz := Lib.hid hz; have Hown := Lib.hid hown; clear hsum hz hown
    by_cases h0 : z = 0
    · subst h0
      go_wp2
      go_ret
      refine RetI.mk ?_ hbl
      have e : nodesB 64 m.testBit = out := by rw [← Hs.out, nodesB_zero, List.append_nil]
      rw [e]; exact Hown.out
    · have hne : ((z : Int) != 0) = true := by simp; omega
      have H0 := Lib.hid h0; clear h0
      have hlen : out.length ≤ 64 := by
        have h1 : (out ++ nodesB 64 z.testBit).length ≤ 64 := by rw [Hs.out]; exact nodesB_length _ _
        rw [List.length_append] at h1; omega
      have hctz := (low_bit z H0.out Hz.out).1
      have e1 : IntKind.u64.wrap ((z : Int) - 1) = ((z - 1 : Nat) : Int) := by have := H0.out; have := Hz.out; rw [IntKind.wrap_u64]; omega
      have e2 : bits .and .u64 (z : Int) ((z - 1 : Nat) : Int) = ((dropLow z : Nat) : Int) := u64_and_nat z (z - 1) Hz.out (by have := Hz.out; omega)
      go_wp2_with (first
        | (go_at_call 105; refine (tz_any z Hz.out H0.out _ (hT.below hbl)).mono ?_; rintro e w' ⟨rfl, rfl⟩)
        | (at_builtin; refine wpList_appI (by rfl) _ _ (by rfl) wr w.heap.size _ out (Lib.ctz 64 z : Nat) Hown.out (by rfl) (by rfl) (by omega) hbl.size ?_; intro v' w1 hown' hb1 _))
      go_roundw
      case rel =>
        refine ⟨dropLow z, out ++ [(Lib.ctz 64 z : Int)], rfl, ?_, hown', ?_, hbl.trans hb1⟩
        · have := dropLow_lt z H0.out; have := Hz.out; omega
        · rw [List.append_assoc, ← Hs.out, nodesB_low z H0.out Hz.out]; rfl
      case measure => have := dropLow_lt z H0.out; simp [intOf]; omega

section
variable {w : World} {g : Nat} {t : TypeId} {x y z : Value}
theorem Blk.three (h : Blk w g t #[x, y, z]) : w.cell? ⟨g, 0, none⟩ = some x ∧ w.cell? ⟨g, 1, none⟩ = some y ∧ w.cell? ⟨g, 2, none⟩ = some z ∧ w.frozen? ⟨g, 1, none⟩ = false ∧ w.frozen? ⟨g, 2, none⟩ = false :=
  ⟨by rw [h.cell]; rfl, by rw [h.cell]; rfl, by rw [h.cell]; rfl, h.frozen 1, h.frozen 2⟩
end
/-- cf has the conflicts of each node with other ones -/
structure CfOk (n : Nat) (l : List (Int × Int)) (cf : Nat → Nat) : Prop where
  lt : ∀ i, cf i < 2 ^ n
  has : ∀ i, i < n → ∀ j, has (cf i) j ↔ i ≠ j ∧ confl l i j
/-- the chooser and its conflicts -/
structure ChS (W w : World) (ch g n : Nat) (cf : Nat → Nat) (v : Value) (full : Bool) : Prop where
  blk : Blk w ch 71 #[.slice (some ⟨g, 0, none⟩) n n, v, .bool full]
  row : w.rowIs g 72 n (fun i => .int .u64 (cf i : Nat))
  hne : g ≠ ch
  hW : Below W.heap.size W w
  hch : W.heap.size ≤ ch
  hg : W.heap.size ≤ g
  hgl : g < w.heap.size
namespace ChS
variable {W w w' : World} {ch g n B : Nat} {cf : Nat → Nat} {v u : Value} {full : Bool}
theorem lt (h : ChS W w ch g n cf v full) : ch < w.heap.size := Blk.lt h.blk
theorem below (h : ChS W w ch g n cf v full) (hb : Below w.heap.size w w') : ChS W w' ch g n cf v full :=
  { h with blk := h.blk.below hb h.lt, row := rowIs_new h.row hb, hW := endB h.hW hb, hgl := Nat.lt_of_lt_of_le h.hgl hb.size }
end ChS
theorem TxtZL.lastCall {P : Program} {ops : Array Oper} {Q : Exit → Act → World → Prop} {S : World → Prop} {es : List Nat} {k : Nat} {J : World → Prop} {o : Oper} {a : Act} {f : FuncId} {args : Array Value} (J' : World → Prop) (hk : es.contains k = true) (hw : Region.wanted o (yielded ops a.tmps) = true)
    (hrun : ∀ w, S w → J w → (execOp a.eval o).run P w = .ok (.enter f args) w) (h : ∀ w, S w → J w → Calls P f args w fun e w' => ∃ v, e = .returned v ∧ J' w') (hr : ∀ v w, J' w → Q .normal (a.put o.dst v) w) : TxtZL P ops Q S es k [o] J a := by
  refine TxtZL.last J' hk hw (fun w hS hJ => ?_) hr
  unfold Eff Oper.wp
  rw [hrun w hS hJ]
  refine (h w hS hJ).mono ?_
  rintro e w' ⟨v, rfl, h1⟩
  exact ⟨v, rfl, h1⟩
def ndL (m : Nat) : List Int := nodesB 64 m.testBit
theorem ChS.fr {W w w' : World} {ch g n B : Nat} {cf : Nat → Nat} {v v' u : Value} {full full' : Bool} (h : ChS W w ch g n cf v full) (hb : Blk w' ch 71 #[.slice (some ⟨g, 0, none⟩) n n, v', .bool full']) (hfr : FindFr ch u w w') (hu : ∀ k, u.ownBlock = some k → B ≤ k) (hgB : g < B) : ChS W w' ch g n cf v' full' where
  blk := hb
  row := h.row.of_block (hfr.block g h.hgl h.hne fun e => by have := hu g e.symm; omega)
  hne := h.hne
  hW := by
    have h1 := h.hW; have h2 := h.hch; have h3 := h.hg
    exact ⟨hfr.os.trans h1.os, hfr.tape.trans h1.tape, hfr.output.trans h1.output, Nat.le_trans h1.size hfr.size, fun k hk => (hfr.block k (Nat.lt_of_lt_of_le hk h1.size) (by omega) (fun e => by have := hu k e.symm; omega)).trans (h1.block k hk)⟩
  hch := h.hch
  hg := h.hg
  hgl := Nat.lt_of_lt_of_le h.hgl hfr.size
/-- the call has found all naive sets that are left, up to 201 -/
def RetCh (ch g n : Nat) (ls F : List (List Int)) (v : Value) (B : Nat) (w : World) : Ending → World → Prop := fun e w' => e = .returned (.tuple #[]) ∧ ∃ (v' : Value) (xs' : List Value),
  Blk w' ch 71 #[.slice (some ⟨g, 0, none⟩) n n, v', .bool (decide ((capL 201 F ls).length = 201))] ∧ Fou w' B v' xs' (capL 201 F ls) ∧ FindFr ch v w w' ∧ Led w v v'
theorem has_conf {n : Nat} {l : List (Int × Int)} {cf : Nat → Nat} (h : CfOk n l cf) {r i : Nat} (hi : i < n) (hz : (cf i &&& r) = 0) (hir : ¬ has r i) : ∀ j, has r j → ¬ confl l i j := fun j hj hc => by
  have h1 : has (cf i &&& r) j := has_and.2 ⟨(h.has i hi j).2 ⟨fun e => hir (by rw [e]; exact hj), hc⟩, hj⟩
  rw [hz] at h1
  exact has_zero h1

set_option maxRecDepth 100000 in
set_option maxHeartbeats 8000000 in
theorem choose_any (W : World) (ch g n B : Nat) (l : List (Int × Int)) (cf : Nat → Nat) (hn : n ≤ 40) (hcf : CfOk n l cf) (hT : Tab W) (hchB : ch < B) (hgB : g < B) : ∀ (r s left : Nat) (v : Value) (xs : List Value) (F : List (List Int)) (w : World),
    Cho n l s r left → ChS W w ch g n cf v (decide (F.length = 201)) → B ≤ w.heap.size → F.length ≤ 201 → Fou w B v xs F →
    Calls Tryd.prog 64 #[.pointer (some ⟨ch, 0, none⟩), .int .u64 (s : Int), .int .u64 (r : Int), .int .u64 (left : Int)] w (RetCh ch g n ((navD n l s r).map ndL) F v B w) := by
  intro r
  induction r using Nat.strongRecOn
  rename_i r ih
  intro s left v xs F w hcho hst hB hF hfo
  have hs64 : s < 18446744073709551616 := u64_of hn (masks_lt.1 ((mem_masks n 0 s).2 fun j hj => by have := hcho.lt j (.inl hj); omega))
  have hr64 : r < 18446744073709551616 := u64_of hn (masks_lt.1 ((mem_masks n 0 r).2 fun j hj => by have := hcho.lt j (.inr (.inl hj)); omega))
  have hl64 : left < 18446744073709551616 := u64_of hn (masks_lt.1 ((mem_masks n 0 left).2 fun j hj => by have := hcho.lt j (.inr (.inr hj)); omega))
  have hcf64 : ∀ i, cf i < 18446744073709551616 := fun i => u64_of hn (hcf.lt i)
  obtain ⟨fb, hfb⟩ : ∃ fb, decide (F.length = 201) = fb := ⟨_, rfl⟩
  rw [hfb] at hst
  obtain ⟨c0, c1, c2, z1, z2⟩ := hst.blk.three
  have hchl := hst.lt
  have Hcho := Lib.hid hcho; have Hst := Lib.hid hst; have Hfo := Lib.hid hfo; have Hfb := Lib.hid hfb; have Hcf := Lib.hid hcf; have Hcf64 := Lib.hid hcf64
  have Hs64 := Lib.hid hs64; have Hr64 := Lib.hid hr64; have Hl64 := Lib.hid hl64
  clear hcho hst hfo hfb hcf hcf64 hs64 hr64 hl64
  cases fb
  case true =>
    have hfull : F.length = 201 := by have := Hfb.out; simpa using this
    have Hend := Lib.hid (capL_full (a := (navD n l s r).map ndL) hfull)
    clear hfull
    go_enter Tryd.func64, Tryd.ntmps64
    go_wp2_with fail
    refine bodyPost_ret (results_none rfl _ _ _) rfl ?_
    exact ⟨rfl, v, xs, by rw [Hend.out, Hfb.out]; exact Hst.out.blk, by rw [Hend.out]; exact Hfo.out, FindFr.refl .., Led.refl ..⟩
  case false =>
  have hne : F.length ≠ 201 := by have := Hfb.out; simpa using this
  go_enter Tryd.func64, Tryd.ntmps64
  go_wp2_with fail
  go_loopw [8] (fun u wr => ∃ z : Nat, u = .int .u64 z ∧ z < 18446744073709551616 ∧ (∀ j, has z j → has left j) ∧ (∀ j, has left j → ¬ has z j → (cf j &&& r) ≠ 0) ∧ Below w.heap.size w wr) (fun u _ => (intOf u).toNat)
  case atStart => exact ⟨left, rfl, Hl64.out, fun _ h => h, fun j h1 h2 => absurd h1 h2, Below.refl _ _⟩
  case round =>
    obtain ⟨z, rfl, hz, hzl, hzn, hbl⟩ := hrel
    have Hz := Lib.hid hz; have Hzl := Lib.hid hzl; have Hzn := Lib.hid hzn
    clear hz hzl hzn
    have hst1 := Hst.out.below hbl
    obtain ⟨d0, d1, d2, y1, y2⟩ := hst1.blk.three
    have hB1 := Nat.le_trans hB hbl.size
    have hfo1 := Hfo.out.below hbl
    have Hst1 := Lib.hid hst1; have Hfo1 := Lib.hid hfo1
    clear hst1 hfo1
    by_cases h0 : z = 0
    case neg =>
      have hne0 : ((z : Int) != 0) = true := by simp; omega
      obtain ⟨ht1, ht2, ht3⟩ := low_bit z h0 Hz.out
      obtain ⟨i, hi⟩ : ∃ i, Lib.ctz 64 z = i := ⟨_, rfl⟩
      rw [hi] at ht1 ht2 ht3
      have hil : has left i := Hzl.out i ht2
      have hin : i < n := Hcho.out.lt i (.inr (.inr hil))
      have hin' : (i : Int) < (n : Int) := by omega
      have hi0' : (0 : Int) ≤ (i : Int) := by omega
      have htz := tz_any z Hz.out h0
      rw [hi] at htz
      have Htz := Lib.hid htz
      have hci := World.rowIs.cell Hst1.out.row hin
      have e1 : IntKind.u64.wrap ((z : Int) - 1) = ((z - 1 : Nat) : Int) := by have := Hz.out; rw [IntKind.wrap_u64]; omega
      have e2 : bits .and .u64 (z : Int) ((z - 1 : Nat) : Int) = ((dropLow z : Nat) : Int) := u64_and_nat z (z - 1) Hz.out (by have := Hz.out; omega)
      have e3 := u64_and_nat (cf i) r (Hcf64.out i) Hr64.out
      obtain ⟨q, hq⟩ : ∃ q, (((cf i &&& r : Nat) : Int) == 0) = q := ⟨_, rfl⟩
      have Hq := Lib.hid hq
      have H0 := Lib.hid h0; have Hi := Lib.hid hi; have Hil := Lib.hid hil
      clear h0 hi htz ht2 ht3 hil
      obtain ⟨W0, hW0⟩ : ∃ W0, W0 = wr := ⟨_, rfl⟩
      subst hW0
      go_wp2_with fail
      refine wp_region_text (S := fun w' => Below W0.heap.size W0 w') (by kernel_rfl) (by kernel_rfl) (Below.refl _ _).drew ?_
      repeat (first
        | (refine TxtL.skip (by rfl) ?_; simp only [Act.put, List.setIfInBounds_toArray, List.set_cons_zero, List.set_cons_succ])
        | (refine TxtL.take' (by rfl) ?_; apply Exists.intro; refine ⟨fun w1 hS1 => ?_, ?_⟩; (focus ((have g0 := (hS1.cell (lt_of_cell d0)).trans d0); (have g1 := (hS1.cell (lt_of_cell hci)).trans hci); go_simp; with_reducible rfl)); simp only [Act.put, List.setIfInBounds_toArray, List.set_cons_zero, List.set_cons_succ])
        | (refine TxtL.call' (by rfl) ?_; apply Exists.intro; apply Exists.intro; refine ⟨fun w1 hS1 => ?_, ?_⟩; (focus (go_simp; first | with_reducible rfl | exact ⟨rfl, rfl⟩)); apply Exists.intro; refine ⟨fun w1 hS1 => ?_, ?_⟩; (focus ((have g0 := (hS1.cell (lt_of_cell d0)).trans d0); (have g1 := (hS1.cell (lt_of_cell hci)).trans hci); first | (refine (Htz.out w1 (hT.below (endB Hst1.out.hW hS1))).mono ?_; rintro e w' ⟨rfl, rfl⟩; exact ⟨rfl, hS1⟩))); simp only [Act.put, List.setIfInBounds_toArray, List.set_cons_zero, List.set_cons_succ]))
      refine TxtL.nil (fun w1 hS1 => ?_)
      have hbl2 := endB hbl hS1
      cases q
      · have hnz : (cf i &&& r) ≠ 0 := fun h => by have := Hq.out; rw [h] at this; cases this
        have Hnz := Lib.hid hnz
        clear hnz hq
        go_wp2_with fail
        go_roundw
        case rel =>
          refine ⟨dropLow z, rfl, ?_, fun j hj => ?_, fun j hj hnj => ?_, hbl2⟩
          · have := dropLow_lt z H0.out; have := Hz.out; omega
          · unfold has at hj
            rw [testBit_dropLow z j H0.out Hz.out, Bool.and_eq_true] at hj
            exact Hzl.out j hj.1
          · by_cases hji : j = i
            · rw [hji]; exact Hnz.out
            · refine Hzn.out j hj fun h => hnj ?_
              unfold has
              rw [testBit_dropLow z j H0.out Hz.out, Bool.and_eq_true, decide_eq_true_iff, Hi.out]
              exact ⟨h, hji⟩
        case measure => have := dropLow_lt z H0.out; simp [intOf]; omega
      · have hzz : (cf i &&& r) = 0 := by have := Hq.out; rw [beq_iff_eq] at this; omega
        have hnil := Hcho.out.dead Hil.out (has_conf Hcf.out hin hzz fun h => Hcho.out.rl i h Hil.out)
        have Hend := Lib.hid (show capL 201 F ((navD n l s r).map ndL) = F by rw [hnil]; exact capL_nil hF)
        clear hzz hnil hq
        go_wp2_with fail
        refine bodyPost_ret (results_none rfl _ _ _) rfl ?_
        exact ⟨rfl, v, xs, by rw [Hend.out, Hfb.out]; exact (Hst1.out.below hS1).blk, by rw [Hend.out]; exact Hfo1.out.below hS1, FindFr.of_below hbl2, Led.refl ..⟩
    case pos =>
    subst h0
    have hall : ∀ j, has left j → (cf j &&& r) ≠ 0 := fun j hj => Hzn.out j hj has_zero
    have Hall := Lib.hid hall
    clear hall Hz Hzl Hzn
    have hlt201 : F.length < 201 := by omega
    by_cases hr0 : r = 0
    case pos =>
      subst hr0
      have hl0 : left = 0 := has_ext fun j => ⟨fun h => absurd (Nat.and_zero _) (Hall.out j h), fun h => absurd h has_zero⟩
      have hleaf : navD n l s 0 = [s] := by
        have := Hcho.out
        rw [hl0] at this
        exact this.leaf
      obtain ⟨L, hL⟩ : ∃ L, ndL s = L := ⟨_, rfl⟩
      have Hend := Lib.hid (show capL 201 F ((navD n l s 0).map ndL) = F ++ [L] by rw [hleaf, ← hL]; exact capL_one hlt201)
      have Hlen := Lib.hid (show decide ((F ++ [L]).length = 201) = decide (F.length = 200) by rw [List.length_append]; simp)
      have HL := Lib.hid hL
      clear hl0 hleaf hL ih
      obtain ⟨AV, cV, rfl, _⟩ := OwnS.forms Hfo1.out.s Hfo1.out.l
      obtain ⟨q, hq⟩ : ∃ q, ((F.length : Int) == 200) = q := ⟨_, rfl⟩
      have Hq := Lib.hid (show decide (F.length = 200) = q by rw [← hq, Bool.eq_iff_iff, decide_eq_true_iff, beq_iff_eq]; omega)
      have hxl : xs.length ≤ 1000000 := by rw [Hfo1.out.len]; omega
      go_upto_region 7 with fail
      obtain ⟨W3, hW3, hB3k, hg3⟩ : ∃ W3, wr.setCell ⟨ch, 2, none⟩ (.bool q) = W3 ∧ Blk W3 ch 71 #[.slice (some ⟨g, 0, none⟩) n n, .slice AV F.length cV, .bool q] ∧ wr.grownBy W3 (some ch) := ⟨_, rfl, Hst1.out.blk.set_ 2 (.bool q), grownBy_setCell _ _ _ _⟩
      rw [hW3]
      clear hW3 hq
      have hst3 : ChS W W3 ch g n cf (.slice AV F.length cV) q := Hst1.out.fr hB3k (FindFr.of_grown (v := .slice none 0 0) hg3) (fun k h => by cases h) hgB
      have hfo3 := Hfo1.out.kept hg3 hchB
      have hB3 := Nat.le_trans hB1 hg3.size
      have Hst3 := Lib.hid hst3; have Hfo3 := Lib.hid hfo3; have Hg3 := Lib.hid hg3
      clear hst3 hfo3 hg3 hB3k d0 d1 d2 y1 y2 c0 c1 c2 z1 z2
      refine wp_region_textZ [6, 7, 8, 11] (fun w' => ChS W w' ch g n cf (.slice AV F.length cV) q ∧ FindFr ch (.slice AV F.length cV) w w' ∧ B ≤ w'.heap.size) (fun w' => Fou w' B (.slice AV F.length cV) xs F ∧ Below W3.heap.size W3 w') (by kernel_rfl) (by kernel_rfl) (by kernel_rfl) (by kernel_rfl) ⟨Hst3.out.below (Below.refl _ _).drew, ((FindFr.of_below hbl).trans (Led.refl ..) (FindFr.of_grown Hg3.out)).trans (Led.refl ..) (FindFr.of_below (Below.refl _ _).drew), hB3⟩ ⟨Hfo3.out.below (Below.refl _ _).drew, (Below.refl _ _).drew⟩ ?_
      repeat (first
        | (refine TxtZL.skip (by rfl) ?_; simp only [Act.put, List.setIfInBounds_toArray, List.set_cons_zero, List.set_cons_succ])
        | (refine TxtZL.take (by rfl) (by rfl) ?_; apply Exists.intro; refine ⟨fun w1 hS1 => ?_, ?_⟩; (focus ((obtain ⟨g0, g1, g2, _, _⟩ := hS1.1.blk.three); go_simp; with_reducible rfl)); simp only [Act.put, List.setIfInBounds_toArray, List.set_cons_zero, List.set_cons_succ])
        | (refine TxtZL.takeE' (by rfl) (by rfl) ?_; apply Exists.intro; refine ⟨fun w1 hS1 => ?_, ?_⟩; (focus ((obtain ⟨g0, g1, g2, _, _⟩ := hS1.1.blk.three); go_simp; with_reducible rfl)); simp only [Act.put, List.setIfInBounds_toArray, List.set_cons_zero, List.set_cons_succ]))
      refine TxtZL.call (f := 106) (args := #[.int .u64 (s : Int)]) (fun u => ∃ A' c', u = Value.slice A' L.length c') (fun u w' => (Fou w' B (.slice AV F.length cV) xs F ∧ Below W3.heap.size W3 w') ∧ OwnI w' B u L) (by rfl) (by rfl) ⟨_, none, 0, rfl⟩ (fun w1 hS1 hJ1 => by go_simp) (fun w1 hS1 hJ1 => ?_) ?_
      · refine (slist_any s Hs64.out w1 (hT.below hS1.1.hW)).mono ?_
        rintro e w' ⟨A', c', rfl, ho, _, _, hb⟩
        have ho' : OwnI w' w1.heap.size (.slice A' (ndL s).length c') (ndL s) := ho
        show ∃ u, Ending.returned (Value.slice A' (ndL s).length c') = _ ∧ _
        rw [HL.out] at ho' ⊢
        exact ⟨_, rfl, ⟨hS1.1.below hb, hS1.2.1.trans (Led.refl ..) (FindFr.of_below hb), Nat.le_trans hS1.2.2 hb.size⟩, ⟨A', c', rfl⟩, ⟨hJ1.1.below hb, endB hJ1.2 hb⟩, OwnI.mono ho' hS1.2.2⟩
      rintro v50 ⟨A3, c3, rfl⟩
      simp only [Act.put, List.setIfInBounds_toArray, List.set_cons_zero, List.set_cons_succ]
      refine TxtZL.value (fun u => ∃ q, u = Value.slice (some ⟨q, 0, none⟩) 1 1) (fun u w' => ∃ X, w' = X.alloc (.cells #[.slice A3 L.length c3] 25) ∧ u = Value.slice (some ⟨X.heap.size, 0, none⟩) 1 1 ∧ (Fou X B (.slice AV F.length cV) xs F ∧ Below W3.heap.size W3 X) ∧ OwnI X B (.slice A3 L.length c3) L ∧ ChS W X ch g n cf (.slice AV F.length cV) q ∧ FindFr ch (.slice AV F.length cV) w X ∧ B ≤ X.heap.size) (by rfl) (by rfl) ⟨_, 0, rfl⟩ (fun w1 hS1 hJ1 => ?_) ?_
      · exact ⟨.slice (some ⟨w1.heap.size, 0, none⟩) 1 1, w1.alloc (.cells #[.slice A3 L.length c3] 25), by go_simp, ⟨hS1.1.below (newB _ _), hS1.2.1.trans (Led.refl ..) (FindFr.of_below (newB _ _)), Nat.le_trans hS1.2.2 (newB _ _).size⟩, ⟨_, rfl⟩, w1, rfl, rfl, hJ1.1, hJ1.2, hS1⟩
      rintro v51 ⟨q51, rfl⟩
      simp only [Act.put, List.setIfInBounds_toArray, List.set_cons_zero, List.set_cons_succ]
      refine TxtZL.eff (fun u => ∃ A' c', u = Value.slice A' (F.length + 1) c') (fun u w' => Fou w' B u (xs ++ [.slice A3 L.length c3]) (F ++ [L]) ∧ Led w (.slice AV F.length cV) u) (by rfl) (by rfl) ⟨_, none, 0, rfl⟩ (fun w1 hS1 hJ1 => ?_) ?_
      · obtain ⟨X, rfl, hq5, hX, hIX, hSX, hFX, hBX⟩ := hJ1
        injection hq5 with hq5; injection hq5 with hq5; injection hq5 with hq5 _ _; subst hq5
        refine Eff.of_list (ops := #[]) (by rfl) ?_
        refine wpList_appS2 (by rfl) _ _ (by rfl) X B _ xs _ _ _ hX.1.s (by rfl) (by rfl) rfl hxl hBX ?_
        intro v' w' ho hb hg hled
        have hol : OwnL w' B (xs ++ [.slice A3 L.length c3]) (F ++ [L]) := (hX.1.l.append hX.1.s hg).snoc (World.ownsRow.kept hIX hg (hIX.apart hX.1.s))
        obtain ⟨A', c', e', _⟩ := OwnS.forms ho hol
        have hlen1 : (F ++ [L]).length = F.length + 1 := by simp
        rw [hlen1] at e'
        have hfr' : FindFr ch (.slice AV F.length cV) X w' := FindFr.of_own hg
        have hupX : ∀ k, (Value.slice AV F.length cV).ownBlock = some k → B ≤ k := fun k hk => (OwnS.up hX.1.s k hk).1
        refine ⟨rfl, v', rfl, ⟨hSX.fr (Blk.grown hSX.blk hg (fun e => by have := hupX ch e.symm; omega)) hfr' hupX hgB, hFX.trans (Led.refl ..) hfr', Nat.le_trans hBX hg.size⟩, ⟨A', c', e'⟩, ⟨ho, hol⟩, (Led.refl w _).trans ?_ hled⟩
        exact hFX.size
      rintro v52 ⟨A4, c4, rfl⟩
      simp only [Act.put, List.setIfInBounds_toArray, List.set_cons_zero, List.set_cons_succ]
      repeat (first
        | (refine TxtZL.skip (by rfl) ?_; simp only [Act.put, List.setIfInBounds_toArray, List.set_cons_zero, List.set_cons_succ])
        | (refine TxtZL.take (by rfl) (by rfl) ?_; apply Exists.intro; refine ⟨fun w1 hS1 => ?_, ?_⟩; (focus ((obtain ⟨g0, g1, g2, _, _⟩ := hS1.1.blk.three); go_simp; with_reducible rfl)); simp only [Act.put, List.setIfInBounds_toArray, List.set_cons_zero, List.set_cons_succ])
        | (refine TxtZL.takeE' (by rfl) (by rfl) ?_; apply Exists.intro; refine ⟨fun w1 hS1 => ?_, ?_⟩; (focus ((obtain ⟨g0, g1, g2, _, _⟩ := hS1.1.blk.three); go_simp; with_reducible rfl)); simp only [Act.put, List.setIfInBounds_toArray, List.set_cons_zero, List.set_cons_succ]))
      refine TxtZL.last (fun w' => Blk w' ch 71 #[.slice (some ⟨g, 0, none⟩) n n, .slice A4 (F.length + 1) c4, .bool q] ∧ Fou w' B (.slice A4 (F.length + 1) c4) (xs ++ [.slice A3 L.length c3]) (F ++ [L]) ∧ FindFr ch (.slice AV F.length cV) w w' ∧ Led w (.slice AV F.length cV) (.slice A4 (F.length + 1) c4)) (by rfl) (by rfl) (fun w1 hS1 hJ1 => ?_) ?_
      · obtain ⟨g0, g1, g2, y1, y2⟩ := hS1.1.blk.three
        exact Eff.skip (w' := w1.setCell ⟨ch, 1, none⟩ (.slice A4 (F.length + 1) c4)) (by go_simp) ⟨hS1.1.blk.set_ 1 (.slice A4 (F.length + 1) c4), hJ1.1.kept (grownBy_setCell _ _ _ _) hchB, hS1.2.1.trans (Led.refl ..) (FindFr.of_grown (grownBy_setCell _ _ _ _)), hJ1.2⟩
      rintro v0 w4 ⟨hE1, hE2, hE3, hE4⟩
      have HE1 := Lib.hid hE1; have HE2 := Lib.hid hE2; have HE3 := Lib.hid hE3; have HE4 := Lib.hid hE4
      clear hE1 hE2 hE3 hE4
      go_wp2_with fail
      refine bodyPost_ret (results_none rfl _ _ _) rfl ?_
      exact ⟨rfl, _, _, by rw [Hend.out, Hlen.out, Hq.out]; exact HE1.out, by rw [Hend.out]; exact HE2.out, HE3.out, HE4.out⟩
    case neg =>
    obtain ⟨ht1, ht2, ht3⟩ := low_bit r hr0 Hr64.out
    have htz := tz_any r Hr64.out hr0
    obtain ⟨i, hi⟩ : ∃ i, Lib.ctz 64 r = i := ⟨_, rfl⟩
    rw [hi] at ht1 ht2 ht3 htz
    have hir : has r i := ht2
    have hin : i < n := Hcho.out.lt i (.inr (.inl hir))
    have hin' : (i : Int) < (n : Int) := by omega
    have hi0' : (0 : Int) ≤ (i : Int) := by omega
    have hi64 : (i : Int) < 64 := by omega
    have h1 := u64_one_shl i (by omega)
    rw [Int.one_mul] at h1
    obtain ⟨m1, hm1⟩ : ∃ m1, 1 <<< i = m1 := ⟨_, rfl⟩
    rw [hm1] at h1
    have hm64 : m1 < 18446744073709551616 := by rw [← hm1, Nat.one_shiftLeft]; exact two_pow_u64 (by omega)
    have hhm : ∀ j, has m1 j ↔ j = i := fun j => by rw [← hm1]; exact has_one
    have e1 := u64_or_nat s m1 Hs64.out hm64
    have e2 := u64_minus r m1 Hr64.out hm64
    have hh2 : ∀ j, has (minusN r m1) j ↔ has r j ∧ j ≠ i := fun j => by rw [has_minusN Hr64.out hm64, hhm]
    obtain ⟨r2, hr2⟩ : ∃ r2, minusN r m1 = r2 := ⟨_, rfl⟩
    rw [hr2] at e2 hh2
    have hr2le : r2 ≤ r := by rw [← hr2]; exact minusN_le _ _
    have hr264 : r2 < 18446744073709551616 := Nat.lt_of_le_of_lt hr2le Hr64.out
    have hr2lt : r2 < r := Nat.lt_of_le_of_ne hr2le fun e => ((hh2 i).1 (by rw [e]; exact hir)).2 rfl
    have e3 := u64_minus r2 (cf i) hr264 (Hcf64.out i)
    have hself : ¬ att l i i := Hcho.out.self i (.inl hir)
    have hcfi : ∀ j, j ≠ i → (has (cf i) j ↔ confl l i j) := fun j hj => by rw [Hcf.out.has i hin j]; exact ⟨fun h => h.2, fun h => ⟨fun e => hj e.symm, h⟩⟩
    have hh1 : ∀ j, has (minusN r2 (cf i)) j ↔ has r j ∧ j ≠ i ∧ ¬ confl l i j := fun j => by
      rw [has_minusN hr264 (Hcf64.out i), hh2]
      constructor
      · rintro ⟨⟨a, b⟩, c⟩; exact ⟨a, b, fun h => c ((hcfi j b).2 h)⟩
      · rintro ⟨a, b, c⟩; exact ⟨⟨a, b⟩, fun h => c ((hcfi j b).1 h)⟩
    obtain ⟨r1, hr1⟩ : ∃ r1, minusN r2 (cf i) = r1 := ⟨_, rfl⟩
    rw [hr1] at e3 hh1
    have hr1lt : r1 < r := Nat.lt_of_le_of_lt (by rw [← hr1]; exact minusN_le _ _) hr2lt
    have e4 := u64_minus left (cf i) Hl64.out (Hcf64.out i)
    have hhl : ∀ j, has (minusN left (cf i)) j ↔ has left j ∧ ¬ confl l i j := fun j => by
      rw [has_minusN Hl64.out (Hcf64.out i)]
      by_cases hj : j = i
      · subst hj
        exact ⟨fun h => absurd h.1 (Hcho.out.rl j hir), fun h => absurd h.1 (Hcho.out.rl j hir)⟩
      · rw [hcfi j hj]
    obtain ⟨left1, hl1⟩ : ∃ x, minusN left (cf i) = x := ⟨_, rfl⟩
    rw [hl1] at e4 hhl
    have e5 := u64_or_nat left m1 Hl64.out hm64
    have hwith := Hcho.out.with hir hh1 hhl
    have hwout := Hcho.out.without hir hh2
    have hspl := Hcho.out.split hir (fun j hj h => by have := ht3 j hj; unfold has at h; rw [this] at h; cases h) hh1 hh2
    have hal : cf i = 0 → navD n l s r2 = [] := fun h => Hcho.out.alone hir (fun j hc => by
      by_cases hj : j = i
      · subst hj; exact hself (hc.elim id id)
      · have := (hcfi j hj).2 hc
        rw [h] at this; exact has_zero this) hh2
    rw [hm1] at hwith hwout hspl
    have Htz := Lib.hid htz; have Hwith := Lib.hid hwith; have Hwout := Lib.hid hwout; have Hspl := Lib.hid hspl; have Hal := Lib.hid hal
    have hci := World.rowIs.cell Hst1.out.row hin
    clear hi ht2 ht3 htz hir hm1 hhm hh2 hr2 hself hcfi hh1 hr1 hhl hl1 hwith hwout hspl hal
    go_wp2_with fail
    refine (Htz.out wr (hT.below Hst1.out.hW)).mono ?_
    rintro e w1 ⟨rfl, rfl⟩
    go_upto_region 10 with fail
    refine wp_region_textZ [24] (fun w' => Below wr.heap.size wr w') (fun _ => True) (by kernel_rfl) (by kernel_rfl) (by kernel_rfl) (by kernel_rfl) (Below.refl _ _).drew trivial ?_
    repeat (first
      | (refine TxtZL.skip (by rfl) ?_; simp only [Act.put, List.setIfInBounds_toArray, List.set_cons_zero, List.set_cons_succ])
      | (refine TxtZL.take (by rfl) (by rfl) ?_; apply Exists.intro; refine ⟨fun w1 hS1 => ?_, ?_⟩; (focus ((have g0 := (hS1.cell (lt_of_cell d0)).trans d0); (have g1 := (hS1.cell (lt_of_cell hci)).trans hci); go_simp; with_reducible rfl)); simp only [Act.put, List.setIfInBounds_toArray, List.set_cons_zero, List.set_cons_succ])
      | (refine TxtZL.takeE' (by rfl) (by rfl) ?_; apply Exists.intro; refine ⟨fun w1 hS1 => ?_, ?_⟩; (focus ((have g0 := (hS1.cell (lt_of_cell d0)).trans d0); (have g1 := (hS1.cell (lt_of_cell hci)).trans hci); go_simp; with_reducible rfl)); simp only [Act.put, List.setIfInBounds_toArray, List.set_cons_zero, List.set_cons_succ]))
    refine TxtZL.lastCall (f := 64) (args := #[.pointer (some ⟨ch, 0, none⟩), .int .u64 ((s ||| m1 : Nat) : Int), .int .u64 (r1 : Int), .int .u64 (left1 : Int)]) (fun w' => ∃ v2 xs2, Blk w' ch 71 #[.slice (some ⟨g, 0, none⟩) n n, v2, .bool (decide ((capL 201 F ((navD n l (s ||| m1) r1).map ndL)).length = 201))] ∧ Fou w' B v2 xs2 (capL 201 F ((navD n l (s ||| m1) r1).map ndL)) ∧ FindFr ch v w w' ∧ Led w v v2) (by rfl) (by rfl) (fun w1 hS1 _ => by go_simp) (fun w1 hS1 _ => ?_) ?_
    · refine (ih r1 hr1lt (s ||| m1) left1 v xs F w1 Hwith.out (by rw [Hfb.out]; exact Hst1.out.below hS1) (Nat.le_trans hB1 hS1.size) hF (Hfo1.out.below hS1)).mono ?_
      rintro e w' ⟨rfl, v2, xs2, hk2, hf2, hfr2, hl2⟩
      have hb := endB hbl hS1
      exact ⟨_, rfl, v2, xs2, hk2, hf2, (FindFr.of_below hb).trans (Led.refl ..) hfr2, (Led.refl w v).trans hb.size hl2⟩
    rintro v83 w4 ⟨v2, xs2, hk2, hf2, hfr2, hl2⟩
    have hvB : ∀ k, v.ownBlock = some k → B ≤ k := fun k hk => (OwnS.up Hfo.out.s k hk).1
    have hst4 : ChS W w4 ch g n cf v2 _ := Hst.out.fr hk2 hfr2 hvB hgB
    obtain ⟨F1, hF1⟩ : ∃ F1, capL 201 F ((navD n l (s ||| m1) r1).map ndL) = F1 := ⟨_, rfl⟩
    have hF1l : F1.length ≤ 201 := by rw [← hF1]; exact capL_len
    have hnx : capL 201 F1 ((navD n l s r2).map ndL) = capL 201 F ((navD n l s r).map ndL) := by rw [← hF1, capL_cap, ← List.map_append, ← Hspl.out]
    rw [hF1] at hf2 hst4
    have hk4 := hst4.blk
    obtain ⟨k0, k1, k2, _, _⟩ := hk4.three
    have hcj := World.rowIs.cell hst4.row hin
    have hB4 := Nat.le_trans hB hfr2.size
    have Hnx := Lib.hid hnx; have Hst4 := Lib.hid hst4; have Hf2 := Lib.hid hf2; have Hfr2 := Lib.hid hfr2; have Hl2 := Lib.hid hl2
    clear hF1 hnx hst4 hf2 hfr2 hl2 hk2 hk4 d0 d1 d2 hci
    by_cases hc0 : cf i = 0
    · have hzb : ((cf i : Int) != 0) = false := by rw [hc0]; rfl
      have Hend := Lib.hid (show capL 201 F ((navD n l s r).map ndL) = F1 by rw [← Hnx.out, Hal.out hc0]; exact capL_nil hF1l)
      clear hc0
      go_wp2_with fail
      first
        | refine bodyPost_ret (results_none rfl _ _ _) rfl ?_
        | refine bodyPost_end (results_none rfl _ _ _) rfl ?_
      exact ⟨rfl, v2, xs2, by rw [Hend.out]; exact Hst4.out.blk, by rw [Hend.out]; exact Hf2.out, Hfr2.out, Hl2.out⟩
    · have hzb : ((cf i : Int) != 0) = true := by rw [bne_iff_ne]; omega
      clear hc0
      go_wp2_with fail
      refine (ih r2 hr2lt s (left ||| m1) v2 xs2 F1 w4 Hwout.out Hst4.out hB4 hF1l Hf2.out).mono ?_
      rintro e w5 ⟨rfl, v5, xs5, hk5, hf5, hfr5, hl5⟩
      rw [Hnx.out] at hk5 hf5
      have Hk5 := Lib.hid hk5; have Hf5 := Lib.hid hf5; have Hfr5 := Lib.hid hfr5; have Hl5 := Lib.hid hl5
      clear hk5 hf5 hfr5 hl5
      go_wp2_with fail
      first
        | refine bodyPost_ret (results_none rfl _ _ _) rfl ?_
        | refine bodyPost_end (results_none rfl _ _ _) rfl ?_
      exact ⟨rfl, v5, xs5, Hk5.out, Hf5.out, Hfr2.out.trans Hl2.out Hfr5.out, Hl2.out.trans Hfr2.out.size Hl5.out⟩
end Go.Proofs.YtajocnhebfpjaaaDoor
