/- law25.best: the tree of the game is searched. Printed by gen_bs.py. -/
import Derived.Test.YtncimnfhfomddaaDoorMv
import Derived.Deep.DeepCutAuto
namespace Go.Proofs.YtncimnfhfomddaaDoor
open Go.ChangeShapes Go.WideShapes Go.ChangeAt Go.RowKit

def bndB (n m : Nat) : Nat := n * (2 * n + 2 - m)
theorem bndB_succ {n m : Nat} (h : m ≤ 2 * n + 1) : bndB n m = bndB n (m + 1) + n := by
  unfold bndB
  obtain ⟨d, hd⟩ : ∃ d, 2 * n + 2 - m = d + 1 := ⟨2 * n + 1 - m, by omega⟩
  have h2 : 2 * n + 2 - (m + 1) = d := by omega
  rw [hd, h2, Nat.mul_succ]
theorem bndB_le {n m : Nat} (h : n ≤ 10) : bndB n m ≤ 220 := by
  have := Nat.mul_le_mul h (by omega : 2 * n + 2 - m ≤ 22)
  unfold bndB; omega
theorem Mt.rp2 {p : Nat} {a b : World} (h : Mt p p a b) {A : Option Addr} {l : List (Int × Int)} (hr : RP a A l) (hn : l ≠ [] → ∀ c o, A = some ⟨c, o, none⟩ → c ≠ p) : RP b A l := fun j hj => by
  obtain ⟨c, o, e, h1, h2⟩ := hr j hj
  have hc := hn (fun e => by rw [e] at hj; cases hj) c o e
  exact ⟨c, o, e, h.cell h1 hc hc, h.cell h2 hc hc⟩
theorem lens_snoc1 (line : List Nat) (a : Nat) : (line ++ [a]).length = line.length + 1 := by rw [List.length_append, List.length_singleton]
theorem headD_snoc1 {line : List Nat} (h : line ≠ []) (a : Nat) : (line ++ [a]).headD 0 = line.headD 0 := by
  cases line with
  | nil => exact absurd rfl h
  | cons x r => rfl
/-- what best tells: the rounds that are left, and the value if there are some left -/
def BsQ (n k : Nat) (l : List (Int × Int)) (p : Nat) (line : List Nat) (L : Int) (r : Nat) (L' : Int) (w' : World) : Prop :=
  Blk w' p 3 #[.int .i64 L'] ∧ L' < L ∧ (L ≤ 0 → L' = L - 1) ∧ (0 < L → -(bndB n line.length : Int) ≤ L') ∧ (0 < L' → Val n k (attQ l) line r)
def RetBs (n k : Nat) (l : List (Int × Int)) (p : Nat) (line : List Nat) (L : Int) (w : World) : Ending → World → Prop := fun e w' => ∃ (r : Nat) (L' : Int), e = .returned (.int .i64 (r : Int)) ∧ Mt p p w w' ∧ BsQ n k l p line L r L' w'

set_option maxRecDepth 100000 in
set_option maxHeartbeats 16000000 in
theorem bst_any (A : Option Addr) {n : Nat} {l : List (Int × Int)} (c : Nat) (hv : Vld n l) (hn10 : n ≤ 10) (k : Nat) (hk : k = 1 ∨ k = 2) (p : Nat) (hA : l ≠ [] → ∀ b o, A = some ⟨b, o, none⟩ → b ≠ p) (hTp : 0 ≠ p) : ∀ (m : Nat) (line : List Nat) (AL : Option Addr) (cl : Nat) (L : Int) (w : World), L.toNat ≤ m → -1000000 ≤ L → L ≤ 1000000 → line ≠ [] → (∀ x ∈ line, x < n) → PlOk k (attQ l) line → (k = 2 → attQ l (line.headD 0) (line.headD 0) = false) → line.length ≤ cl → RP w A l → RI w AL (line.map Int.ofNat) → (∀ b o, AL = some ⟨b, o, none⟩ → b ≠ p ∧ b ≠ p) → Tab w → Blk w p 3 #[.int .i64 L] →
    Calls Tryd.prog 41 #[.agg #[.int .i64 (n : Int), .slice A l.length c], .int .i64 (k : Int), .slice AL line.length cl, .pointer (some ⟨p, 0, none⟩)] w (RetBs n k l p line L w) := by
  intro m
  induction m using Nat.strongRecOn
  rename_i m ih
  intro line AL cl L w hm hL0 hL1 hne hx hp hself hcp hrg hrl hAL hT hpb
  have hlen := hp.short hk hx
  have hlen60 : line.length ≤ 60 := by omega
  have hpl := hpb.lt
  have hpos : 0 < line.length := List.length_pos_iff.2 hne
  have hALn : AL ≠ none := fun e => by
    obtain ⟨b, o, e2, -⟩ := hrl.at_ (k := 0) (by rw [List.length_map]; exact hpos)
    rw [e] at e2; cases e2
  have hbox : ∃ W1, w.alloc (.cells #[.int .i64 (n : Int), .slice A l.length c] 24) = W1 ∧ Blk W1 w.heap.size 24 #[.int .i64 (n : Int), .slice A l.length c] ∧ Below w.heap.size w W1 ∧ W1.heap.size = w.heap.size + 1 := ⟨_, rfl, Blk.new _ _ _, newB _ _, by simp⟩
  have hwr : IntKind.i64.wrap (L - 1) = L - 1 := by rw [IntKind.wrap_i64]; omega
  have Hm := Lib.hid hm; have Hne := Lib.hid hne; have Hx := Lib.hid hx; have Hp := Lib.hid hp; have Hself := Lib.hid hself; have HAL := Lib.hid hALn; have HALp := Lib.hid hAL; have Hk := Lib.hid hk; have Hv := Lib.hid hv; have HA := Lib.hid hA; have Hih := Lib.hid ih
  clear hm hne hx hp hself hALn hAL hk hv hA ih
  go_enter Tryd.func41, Tryd.ntmps41
  go_upto_region 1 with fail
  obtain ⟨W1, hW, kn, hb1, hs1⟩ := hbox
  rw [hW]
  have hpb1 := hpb.below hb1 hpl
  have hrg1 := hrg.below hb1; have hrl1 := hrl.below hb1; have hT1 := hT.below hb1
  have g0 : W1.cell? ⟨p, 0, none⟩ = some (.int .i64 L) := hpb1.cell 0
  have z0 := hpb1.frozen 0
  have hpb2 : Blk (W1.setCell ⟨p, 0, none⟩ (.int .i64 (L - 1))) p 3 #[.int .i64 (L - 1)] := hpb1.set_ 0 _
  have hmt12 := (Mt.refl p p W1).set_ (q := ⟨p, 0, none⟩) (.inl rfl) (.int .i64 (L - 1))
  have hmt2 := (Mt.of_below hb1 (p := p) (g := p)).trans hmt12
  obtain ⟨G, hG⟩ : ∃ G, w.heap.size = G := ⟨_, rfl⟩
  rw [hG] at kn hpl ⊢
  have hGp : G ≠ p ∧ G ≠ p := by omega
  have kn2 := hmt12.blk kn hGp.1 hGp.2
  have hrg2 := hmt12.rp2 hrg1 HA.out; have hrl2 := hmt12.ri hrl1 HALp.out; have hT2 := hmt12.tab hT1 hTp hTp
  have Hmt2 := Lib.hid hmt2
  go_upto_region 2 with fail
  obtain ⟨W2, hW2⟩ : ∃ W2, W1.setCell ⟨p, 0, none⟩ (.int .i64 (L - 1)) = W2 := ⟨_, rfl⟩
  rw [hW2] at hpb2 kn2 hrg2 hrl2 hT2 Hmt2 ⊢
  clear hW hW2 kn hb1 hs1 hpb1 hrg1 hrl1 hT1 g0 z0 hmt12 hmt2 hpb hrg hrl hT hG hwr
  have g0 : W2.cell? ⟨p, 0, none⟩ = some (.int .i64 (L - 1)) := hpb2.cell 0
  have Hpb2 := Lib.hid hpb2
  by_cases hL : L - 1 ≤ 0
  case pos =>
    have hd : decide (L - 1 ≤ 0) = true := decide_eq_true hL
    have Hq : RowKit.Hid (BsQ n k l p line L 0 (L - 1) W2) := Lib.hid ⟨hpb2, by omega, fun _ => rfl, fun _ => by omega, fun h => by omega⟩
    clear hpb2 hL
    go_wp2_with fail
    go_ret
    exact ⟨0, L - 1, rfl, Hmt2.out, Hq.out⟩
  have hd : decide (L - 1 ≤ 0) = false := decide_eq_false hL
  have hlr : (line.length : Int) % 2 = ((line.length % 2 : Nat) : Int) := by omega
  have Hlr := Lib.hid hlr
  clear hpb2 hlr
  go_upto_if 27 with fail
  go_cut [9, 10] (fun t9 t10 wx => t9 = .int .i64 ((mvr line : Nat) : Int) ∧ t10 = .int .i64 ((3 - mvr line : Nat) : Int) ∧ wx = W2)
  case first =>
    by_cases hpar : line.length % 2 = 0
    · have hm : mvr line = 1 := if_pos hpar
      have hq : ((line.length : Int) % 2 == 0) = true := by rw [beq_iff_eq]; omega
      have Hm1 := Lib.hid hm
      clear hm hpar
      go_wp2_with fail
      go_meet
      exact ⟨by rw [Hm1.out]; rfl, by rw [Hm1.out]; rfl, rfl⟩
    · have hm : mvr line = 2 := if_neg hpar
      have hq : ((line.length : Int) % 2 == 0) = false := by rw [beq_eq_false_iff_ne]; omega
      have Hm1 := Lib.hid hm
      clear hm hpar
      go_wp2_with fail
      go_meet
      exact ⟨by rw [Hm1.out]; rfl, by rw [Hm1.out]; rfl, rfl⟩
  obtain ⟨rfl, rfl, rfl⟩ := hcut
  obtain ⟨MV, hMV⟩ : ∃ MV, mvr line = MV := ⟨_, rfl⟩
  have Hmv := Lib.hid hMV
  rw [hMV]
  obtain ⟨d0, d1, -, -⟩ := kn2.two
  have hgl := kn2.lt
  have Hmo := Lib.hid (gMoves_any A c Hv.out k Hk.out AL line cl wc Hne.out Hx.out (by omega) hcp Hp.out Hself.out hrg2 hrl2 hT2)
  have hmv2 : MV = 1 ∨ MV = 2 := by rw [← hMV]; unfold mvr; split <;> simp
  have hms : ∀ a ∈ lgL n k (attQ l) line, a < n ∧ lgB k (attQ l) line a = true := fun a ha => mem_lg.1 ha
  have hmall : ∀ a, a ∈ lgL n k (attQ l) line → a ∈ lgL n k (attQ l) line := fun _ h => h
  have hmn : (lgL n k (attQ l) line).length ≤ n := by have := List.length_filter_le (lgB k (attQ l) line) (List.range n); rw [List.length_range] at this; exact this
  have hval0 : ∀ r : Nat, r = r := fun _ => rfl
  obtain ⟨ms, hmseq⟩ : ∃ ms, lgL n k (attQ l) line = ms := ⟨_, rfl⟩
  have Hmseq := Lib.hid hmseq
  rw [hmseq] at hms hmn Hmo
  have Hms := Lib.hid hms
  clear hMV hms hmall hval0 hmseq g0 kn2
  go_wp2_with fail
  refine Hmo.out.mono ?_
  rintro e w5 ⟨A5, c5, rfl, hri5, hb5, hnw5⟩
  have hpl5 := Nat.lt_of_lt_of_le Hpb2.out.lt hb5.size
  have hpb5 := Hpb2.out.below hb5 Hpb2.out.lt
  have e0 := (hb5.cell (lt_of_cell d0)).trans d0; have e1 := (hb5.cell (lt_of_cell d1)).trans d1
  have hrg5 := hrg2.below hb5; have hrl5 := hrl2.below hb5; have hT5 := hT2.below hb5
  have hmt5 := Hmt2.out.trans (Mt.of_below hb5)
  have hA5 : ∀ b o, A5 = some ⟨b, o, none⟩ → b ≠ p ∧ b ≠ p := fun b o e => by
    have := hnw5 b o e; have := Hpb2.out.lt
    omega
  have Hri := Lib.hid hri5; have Hmt5 := Lib.hid hmt5; have HA5 := Lib.hid hA5; have Hpb5 := Lib.hid hpb5
  clear hrg2 hrl2 hT2 d0 d1 hb5 hnw5 hri5 hmt5 hA5 hpb5 Hmo Hpb2 Hmt2
  go_wp2_with fail
  go_loopw [39] (fun t39 wx => ∃ (q : Nat) (cur : Int), q ≤ ms.length ∧ t39 = .int .i64 (q : Int) ∧ Blk wx p 3 #[.int .i64 cur] ∧ Mt p p w5 wx ∧ cur ≤ L - 1 ∧ -(bndB n (line.length + 1) : Int) - (q : Int) ≤ cur ∧ (0 < cur → ∀ a ∈ ms.take q, ∃ r, r ≠ MV ∧ Val n k (attQ l) (line ++ [a]) r)) (fun t39 _ => ms.length - (intOf t39).toNat)
  case atStart => exact ⟨0, L - 1, Nat.zero_le _, rfl, Hpb5.out, Mt.refl _ _ _, by omega, by omega, fun _ a ha => by cases ha⟩
  case round =>
    obtain ⟨q, cur, hq, rfl, hblk, hmtr, hcl, hcb, hvals⟩ := hrel
    have f0 := hmtr.cell e0 hGp.1 hGp.1; have f1 := hmtr.cell e1 hGp.1 hGp.1
    by_cases hqy : q < ms.length
    case neg =>
      have hqe : q = ms.length := by omega
      have hQ : BsQ n k l p line L (3 - MV) cur wr := ⟨hblk, by omega, fun h => by omega, fun _ => by rw [bndB_succ hlen]; omega, fun h => by
        rw [← Hmv.out]
        refine Val.none fun a ha => ?_
        rw [Hmv.out]
        rw [Hmseq.out] at ha
        exact hvals h a (by rw [hqe, List.take_of_length_le (Nat.le_refl _)]; exact ha)⟩
      have HQ := Lib.hid hQ; have Hmt := Lib.hid (Hmt5.out.trans hmtr)
      clear hblk hmtr hvals hQ f0 f1 hcb hcl hqe
      go_wp2_with fail
      go_ret
      exact ⟨_, _, rfl, Hmt.out, HQ.out⟩
    case pos =>
    obtain ⟨a, ha⟩ : ∃ a, ms[q] = a := ⟨_, rfl⟩
    have ham : a ∈ ms := by rw [← ha]; exact List.getElem_mem _
    obtain ⟨han, hal⟩ := Hms.out a ham
    have htk : ms.take (q + 1) = ms.take q ++ [a] := by rw [List.take_succ_eq_append_getElem hqy, ha]
    obtain ⟨b7, o7, rfl, hc7⟩ := (hmtr.ri Hri.out HA5.out).at_ (k := q) (by rw [List.length_map]; exact hqy)
    rw [List.getElem_map, ha, Int.ofNat_eq_natCast] at hc7
    have ha0 : decide ((a : Int) < 0) = false := by rw [decide_eq_false_iff_not]; omega
    have ha1 : decide ((n : Int) ≤ (a : Int)) = false := by rw [decide_eq_false_iff_not]; omega
    have ha2 : decide (60 < (line.length : Int)) = false := by rw [decide_eq_false_iff_not]; omega
    obtain ⟨WR, hWR⟩ : ∃ WR, WR = wr := ⟨_, rfl⟩
    subst hWR
    have hrgR := hmtr.rp2 hrg5 HA.out; have hrl := hmtr.ri hrl5 HALp.out; have hTR := hmtr.tab hT5 hTp hTp
    have hrec : ∀ (w1 : World) (A7 : Option Addr) (c7 : Nat), Below WR.heap.size WR w1 → OwnI w1 WR.heap.size (.slice A7 (line.length + 1) c7) ((line ++ [a]).map Int.ofNat) → Calls Tryd.prog 41 #[.agg #[.int .i64 (n : Int), .slice A l.length c], .int .i64 (k : Int), .slice A7 (line.length + 1) c7, .pointer (some ⟨p, 0, none⟩)] w1 (RetBs n k l p (line ++ [a]) cur w1) := fun w1 A7 c7 hb1 hown => by
      have hl7 : (line ++ [a]).length = line.length + 1 := lens_snoc1 line a
      have hl8 : ((line ++ [a]).map Int.ofNat).length = line.length + 1 := by rw [List.length_map]; exact hl7
      have hown2 := hown
      rw [← hl8] at hown2
      have := Hih.out cur.toNat (by have := Hm.out; omega) (line ++ [a]) A7 c7 cur w1 (Nat.le_refl _) (by have := bndB_le (n := n) (m := line.length + 1) hn10; omega) (by omega) (by simp) (fun x hx => by
        rw [List.mem_append, List.mem_singleton] at hx
        rcases hx with hx | rfl
        · exact Hx.out x hx
        · exact han) (Hp.out.snoc hal) (fun e => by rw [headD_snoc1 Hne.out]; exact Hself.out e) (by have := OwnI.cap hown2; rw [hl8] at this; rw [hl7]; exact this) (hrgR.below hb1) (OwnI.ri hown2) (fun b o e => by
          have := (World.ownsRow.lt hown b (by rw [e]; rfl)).1
          have := hblk.lt
          omega) (hTR.below hb1) (hblk.below hb1 hblk.lt)
      rw [hl7] at this
      exact this
    have Hrec := Lib.hid hrec
    have Hblk := Lib.hid hblk; have Hmtr := Lib.hid hmtr; have Hvals := Lib.hid hvals; have Htk := Lib.hid htk; have Hal := Lib.hid hal; have Ham := Lib.hid ham
    have hgp := hGp
    clear hrgR hTR hrec hblk hmtr hvals htk hal ham ha
    go_upto_region 13 with fail
    refine wp_region_tree [2, 4, 6, 7, 9] (fun w' => Mt p p WR w') (fun w' => Below WR.heap.size WR w') 12 [0, 1, 2, 3, 4, 5, 6, 7, 8, 9, 10, 11] (by rfl) (by decide) (by kernel_rfl) (by kernel_rfl) (Mt.refl _ _ _).drew (Below.refl _ _).drew ?_
    refine TxtT.pure 0 (by rfl) (by rw [List.getElem?_toArray]; rfl) (by rfl) (by as_aux_lemma => kernel_rfl) (by rfl) ?_; apply Exists.intro; refine ⟨fun w1 hS1 => ?_, ?_⟩; (focus ((have g0 := hS1.cell f0 hgp.1 hgp.1; have g1 := hS1.cell f1 hgp.1 hgp.1); go_simp; with_reducible rfl))
    rw [show List.erase [0, 1, 2, 3, 4, 5, 6, 7, 8, 9, 10, 11] 0 = [1, 2, 3, 4, 5, 6, 7, 8, 9, 10, 11] from rfl]; simp only [Act.put, List.setIfInBounds_toArray, List.set_cons_zero, List.set_cons_succ]
    refine TxtT.pure 1 (by rfl) (by rw [List.getElem?_toArray]; rfl) (by rfl) (by as_aux_lemma => kernel_rfl) (by rfl) ?_; apply Exists.intro; refine ⟨fun w1 hS1 => ?_, ?_⟩; (focus (skip; go_simp; with_reducible rfl))
    rw [show List.erase [1, 2, 3, 4, 5, 6, 7, 8, 9, 10, 11] 1 = [2, 3, 4, 5, 6, 7, 8, 9, 10, 11] from rfl]; simp only [Act.put, List.setIfInBounds_toArray, List.set_cons_zero, List.set_cons_succ]
    refine TxtT.pure 3 (by rfl) (by rw [List.getElem?_toArray]; rfl) (by rfl) (by as_aux_lemma => kernel_rfl) (by rfl) ?_; apply Exists.intro; refine ⟨fun w1 hS1 => ?_, ?_⟩; (focus (skip; go_simp; with_reducible rfl))
    rw [show List.erase [2, 3, 4, 5, 6, 7, 8, 9, 10, 11] 3 = [2, 4, 5, 6, 7, 8, 9, 10, 11] from rfl]; simp only [Act.put, List.setIfInBounds_toArray, List.set_cons_zero, List.set_cons_succ]
    refine TxtT.pure 5 (by rfl) (by rw [List.getElem?_toArray]; rfl) (by rfl) (by as_aux_lemma => kernel_rfl) (by rfl) ?_; apply Exists.intro; refine ⟨fun w1 hS1 => ?_, ?_⟩; (focus (skip; go_simp; with_reducible rfl))
    rw [show List.erase [2, 4, 5, 6, 7, 8, 9, 10, 11] 5 = [2, 4, 6, 7, 8, 9, 10, 11] from rfl]; simp only [Act.put, List.setIfInBounds_toArray, List.set_cons_zero, List.set_cons_succ]
    refine TxtT.pure 8 (by rfl) (by rw [List.getElem?_toArray]; rfl) (by rfl) (by as_aux_lemma => kernel_rfl) (by rfl) ?_; apply Exists.intro; refine ⟨fun w1 hS1 => ?_, ?_⟩; (focus (skip; go_simp; with_reducible rfl))
    rw [show List.erase [2, 4, 6, 7, 8, 9, 10, 11] 8 = [2, 4, 6, 7, 9, 10, 11] from rfl]; simp only [Act.put, List.setIfInBounds_toArray, List.set_cons_zero, List.set_cons_succ]
    refine TxtT.pure 10 (by rfl) (by rw [List.getElem?_toArray]; rfl) (by rfl) (by as_aux_lemma => kernel_rfl) (by rfl) ?_; apply Exists.intro; refine ⟨fun w1 hS1 => ?_, ?_⟩; (focus (skip; go_simp; with_reducible rfl))
    rw [show List.erase [2, 4, 6, 7, 9, 10, 11] 10 = [2, 4, 6, 7, 9, 11] from rfl]; simp only [Act.put, List.setIfInBounds_toArray, List.set_cons_zero, List.set_cons_succ]
    refine TxtT.two 2 6 (by as_aux_lemma => kernel_rfl) (by rw [List.getElem?_toArray]; rfl) (by rw [List.getElem?_toArray]; rfl) (by rfl) (by rfl) (by rfl) (by rfl) (fun v => ∃ g, v = Value.slice (some ⟨g, 0, none⟩) 0 0) (fun v w' => Below WR.heap.size WR w' ∧ OwnI w' WR.heap.size v []) (fun v => ∃ g, v = Value.slice (some ⟨g, 0, none⟩) 1 1) (fun v w' => Below WR.heap.size WR w' ∧ OwnI w' WR.heap.size v [(a : Int)]) (fun w1 hS1 hJ1 => ?_) (fun w1 hS1 hJ1 => ?_) ?_ ?_
    · (have hB1 := hJ1; exact Eff.value (w' := w1.alloc (.cells #[] 3)) (v := .slice (some ⟨w1.heap.size, 0, none⟩) 0 0) (by go_simp) ⟨Mt.of_below (hB1.trans ((newB w1 _).mono hB1.size)), ⟨_, rfl⟩, hB1.trans ((newB w1 _).mono hB1.size), OwnI.mono (own_empty w1) hB1.size⟩)
    · (have hB1 := hJ1; exact Eff.value (w' := w1.alloc (.cells #[.int .i64 (a : Int)] 3)) (v := .slice (some ⟨w1.heap.size, 0, none⟩) 1 1) (by go_simp) ⟨Mt.of_below (hB1.trans ((newB w1 _).mono hB1.size)), ⟨_, rfl⟩, hB1.trans ((newB w1 _).mono hB1.size), OwnI.mono (own_one w1 (a : Int)) hB1.size⟩)
    · rintro _ ⟨g2, rfl⟩
      rw [show List.erase [2, 4, 6, 7, 9, 11] 2 = [4, 6, 7, 9, 11] from rfl]; simp only [Act.put, List.setIfInBounds_toArray, List.set_cons_zero, List.set_cons_succ]
      refine TxtT.two 4 6 (by as_aux_lemma => kernel_rfl) (by rw [List.getElem?_toArray]; rfl) (by rw [List.getElem?_toArray]; rfl) (by rfl) (by rfl) (by rfl) (by rfl) (fun v => ∃ A c, v = Value.slice A line.length c) (fun v w' => Below WR.heap.size WR w' ∧ OwnI w' WR.heap.size v (line.map Int.ofNat)) (fun v => ∃ g, v = Value.slice (some ⟨g, 0, none⟩) 1 1) (fun v w' => Below WR.heap.size WR w' ∧ OwnI w' WR.heap.size (Value.slice (some ⟨g2, 0, none⟩) 0 0) [] ∧ OwnI w' WR.heap.size v [(a : Int)] ∧ v.ownBlock ≠ (Value.slice (some ⟨g2, 0, none⟩) 0 0).ownBlock) (fun w1 hS1 hJ1 => ?_) (fun w1 hS1 hJ1 => ?_) ?_ ?_
      · refine eff_appIs (.tmp 58) (.tmp 59) (by rfl) w1 WR.heap.size _ [] AL (line.map Int.ofNat) cl hJ1.2 (hrl.below hJ1.1) (fun e => absurd e HAL.out) (by rfl) (by rw [List.length_map]; rfl) (by rw [List.length_map]; simp; omega) hJ1.1.size fun v' w' hown' hb hg => ?_
        rw [List.nil_append] at hown'
        exact ⟨Mt.of_below (hJ1.1.trans hb), (by have := shapeI hown'; rwa [List.length_map] at this), hJ1.1.trans hb, hown'⟩
      · (have hB1 := hJ1.1; exact Eff.value (w' := w1.alloc (.cells #[.int .i64 (a : Int)] 3)) (v := .slice (some ⟨w1.heap.size, 0, none⟩) 1 1) (by go_simp) ⟨Mt.of_below (hB1.trans ((newB w1 _).mono hB1.size)), ⟨_, rfl⟩, hB1.trans ((newB w1 _).mono hB1.size), OwnI.below hJ1.2 (newB w1 _), OwnI.mono (own_one w1 (a : Int)) hB1.size, fun e => by have := OwnI.old (g := g2) hJ1.2 rfl; simp [Value.ownBlock] at e; omega⟩)
      · rintro _ ⟨A4, c4, rfl⟩
        rw [show List.erase [4, 6, 7, 9, 11] 4 = [6, 7, 9, 11] from rfl]; simp only [Act.put, List.setIfInBounds_toArray, List.set_cons_zero, List.set_cons_succ]
        refine TxtT.one 6 (by as_aux_lemma => kernel_rfl) (by rw [List.getElem?_toArray]; rfl) (by rfl) (by rfl) (fun v => ∃ g, v = Value.slice (some ⟨g, 0, none⟩) 1 1) (fun v w' => Below WR.heap.size WR w' ∧ OwnI w' WR.heap.size (Value.slice A4 line.length c4) (line.map Int.ofNat) ∧ OwnI w' WR.heap.size v [(a : Int)]) (fun w1 hS1 hJ1 => ?_) ?_
        · (have hB1 := hJ1.1; exact Eff.value (w' := w1.alloc (.cells #[.int .i64 (a : Int)] 3)) (v := .slice (some ⟨w1.heap.size, 0, none⟩) 1 1) (by go_simp) ⟨Mt.of_below (hB1.trans ((newB w1 _).mono hB1.size)), ⟨_, rfl⟩, hB1.trans ((newB w1 _).mono hB1.size), OwnI.below hJ1.2 (newB w1 _), OwnI.mono (own_one w1 (a : Int)) hB1.size⟩)
        rintro _ ⟨g6, rfl⟩
        rw [show List.erase [6, 7, 9, 11] 6 = [7, 9, 11] from rfl]; simp only [Act.put, List.setIfInBounds_toArray, List.set_cons_zero, List.set_cons_succ]
        refine TxtT.one 7 (by as_aux_lemma => kernel_rfl) (by rw [List.getElem?_toArray]; rfl) (by rfl) (by rfl) (fun v => ∃ A c, v = Value.slice A (line.length + 1) c) (fun v w' => Below WR.heap.size WR w' ∧ OwnI w' WR.heap.size v ((line ++ [a]).map Int.ofNat)) (fun w1 hS1 hJ1 => ?_) ?_
        · have h6 : RI w1 (some ⟨g6, 0, none⟩) [(a : Int)] := OwnI.ri (l := [(a : Int)]) (c := 1) hJ1.2.2
          refine eff_appIs (.tmp 60) (.tmp 62) (by rfl) w1 WR.heap.size (.slice A4 line.length c4) (line.map Int.ofNat) (some ⟨g6, 0, none⟩) [(a : Int)] 1 hJ1.2.1 h6 (fun e => by cases e) (by rfl) (by rfl) (by rw [List.length_map]; simp; omega) hJ1.1.size fun v' w' hown' hb hg => ?_
          have hown2 : OwnI w' WR.heap.size v' ((line ++ [a]).map Int.ofNat) := by rw [List.map_append]; exact hown'
          exact ⟨Mt.of_below (hJ1.1.trans hb), (by have := shapeI hown2; rwa [List.length_map, lens_snoc1] at this), hJ1.1.trans hb, hown2⟩
        rintro _ ⟨A7, c7, rfl⟩
        rw [show List.erase [7, 9, 11] 7 = [9, 11] from rfl]; simp only [Act.put, List.setIfInBounds_toArray, List.set_cons_zero, List.set_cons_succ]
        refine TxtT.one 9 (by as_aux_lemma => kernel_rfl) (by rw [List.getElem?_toArray]; rfl) (by rfl) (by rfl) (fun v => ∃ r : Nat, v = Value.int .i64 (r : Int)) (fun v w' => ∃ (r : Nat) (L' : Int), v = Value.int .i64 (r : Int) ∧ Mt p p WR w' ∧ BsQ n k l p (line ++ [a]) cur r L' w') (fun w1 hS1 hJ1 => ?_) ?_
        · refine Eff.call (f := 41) (args := #[.agg #[.int .i64 (n : Int), .slice A l.length c], .int .i64 (k : Int), .slice A7 (line.length + 1) c7, .pointer (some ⟨p, 0, none⟩)]) (by go_simp) ((Hrec.out w1 A7 c7 hJ1.1 hJ1.2).mono ?_)
          rintro e w' ⟨r, L', rfl, hmt, hq⟩
          exact ⟨_, rfl, (Mt.of_below hJ1.1).trans hmt, ⟨_, rfl⟩, r, L', rfl, (Mt.of_below hJ1.1).trans hmt, hq⟩
        rintro _ ⟨r, rfl⟩
        rw [show List.erase [9, 11] 9 = [11] from rfl]; simp only [Act.put, List.setIfInBounds_toArray, List.set_cons_zero, List.set_cons_succ]
        refine TxtT.pure 11 (by rfl) (by rw [List.getElem?_toArray]; rfl) (by rfl) (by as_aux_lemma => kernel_rfl) (by rfl) ?_; apply Exists.intro; refine ⟨fun w1 hS1 => ?_, ?_⟩; (focus (skip; go_simp; with_reducible rfl))
        rw [show List.erase [11] 11 = [] from rfl]; simp only [Act.put, List.setIfInBounds_toArray, List.set_cons_zero, List.set_cons_succ]
        refine ⟨rfl, fun w3 hS3 hJ3 => ?_⟩
        obtain ⟨r', L', hv, hmt3, hq3⟩ := hJ3
        injection hv with _ hv; have hv := Int.ofNat.inj hv; subst hv
        clear hS3
        have Hq3 := Lib.hid hq3; have Hmt3 := Lib.hid hmt3
        clear hq3 hmt3
        by_cases hrm : r = MV
        · have hQ : BsQ n k l p line L r L' w3 := ⟨Hq3.out.1, by have := Hq3.out.2.1; omega, fun h => by omega, fun _ => by
            have h1 := Hq3.out.2.2.1; have h2 := Hq3.out.2.2.2.1
            rw [lens_snoc1] at h2
            rw [bndB_succ hlen]
            by_cases hc : cur ≤ 0
            · have := h1 hc; omega
            · have := h2 (by omega); omega, fun h => by
            have h3 := Hq3.out.2.2.2.2 h
            rw [hrm, ← Hmv.out] at h3 ⊢
            exact Val.hit (by rw [Hmseq.out]; exact Ham.out) h3⟩
          have hbe : ((r : Int) == (MV : Int)) = true := by rw [beq_iff_eq, hrm]
          have HQ := Lib.hid hQ; have Hrm := Lib.hid hrm
          clear hQ hrm
          go_wp2_with fail
          go_ret
          rw [← Hrm.out]
          exact ⟨_, _, rfl, Hmt5.out.trans (Hmtr.out.trans Hmt3.out), HQ.out⟩
        · have hbe : ((r : Int) == (MV : Int)) = false := by rw [beq_eq_false_iff_ne]; omega
          have hnew : L' ≤ L - 1 ∧ -(bndB n (line.length + 1) : Int) - ((q + 1 : Nat) : Int) ≤ L' ∧ (0 < L' → ∀ x ∈ ms.take (q + 1), ∃ r, r ≠ MV ∧ Val n k (attQ l) (line ++ [x]) r) := by
            have h0 := Hq3.out.2.1; have h1 := Hq3.out.2.2.1; have h2 := Hq3.out.2.2.2.1
            rw [lens_snoc1] at h2
            refine ⟨by omega, ?_, fun h x hx => ?_⟩
            · by_cases hc : cur ≤ 0
              · have := h1 hc; omega
              · have := h2 (by omega); omega
            · rw [Htk.out, List.mem_append, List.mem_singleton] at hx
              rcases hx with hx | rfl
              · exact Hvals.out (by omega) x hx
              · exact ⟨r, hrm, Hq3.out.2.2.2.2 h⟩
          have Hnew := Lib.hid hnew
          clear hnew hrm
          go_wp2_with fail
          go_roundw
          case rel => exact ⟨q + 1, L', by omega, by go_num, Hq3.out.1, Hmtr.out.trans Hmt3.out, Hnew.out.1, Hnew.out.2.1, Hnew.out.2.2⟩
          case measure => simp [intOf]; omega
      · rintro _ ⟨g6, rfl⟩
        rw [show List.erase [4, 6, 7, 9, 11] 6 = [4, 7, 9, 11] from rfl]; simp only [Act.put, List.setIfInBounds_toArray, List.set_cons_zero, List.set_cons_succ]
        refine TxtT.one 4 (by as_aux_lemma => kernel_rfl) (by rw [List.getElem?_toArray]; rfl) (by rfl) (by rfl) (fun v => ∃ A c, v = Value.slice A line.length c) (fun v w' => Below WR.heap.size WR w' ∧ OwnI w' WR.heap.size v (line.map Int.ofNat) ∧ OwnI w' WR.heap.size (Value.slice (some ⟨g6, 0, none⟩) 1 1) [(a : Int)]) (fun w1 hS1 hJ1 => ?_) ?_
        · refine eff_appIs (.tmp 58) (.tmp 59) (by rfl) w1 WR.heap.size _ [] AL (line.map Int.ofNat) cl hJ1.2.1 (hrl.below hJ1.1) (fun e => absurd e HAL.out) (by rfl) (by rw [List.length_map]; rfl) (by rw [List.length_map]; simp; omega) hJ1.1.size fun v' w' hown' hb hg => ?_
          rw [List.nil_append] at hown'
          exact ⟨Mt.of_below (hJ1.1.trans hb), (by have := shapeI hown'; rwa [List.length_map] at this), hJ1.1.trans hb, hown', World.ownsRow.kept hJ1.2.2.1 hg (.inr hJ1.2.2.2)⟩
        rintro _ ⟨A4, c4, rfl⟩
        rw [show List.erase [4, 7, 9, 11] 4 = [7, 9, 11] from rfl]; simp only [Act.put, List.setIfInBounds_toArray, List.set_cons_zero, List.set_cons_succ]
        refine TxtT.one 7 (by as_aux_lemma => kernel_rfl) (by rw [List.getElem?_toArray]; rfl) (by rfl) (by rfl) (fun v => ∃ A c, v = Value.slice A (line.length + 1) c) (fun v w' => Below WR.heap.size WR w' ∧ OwnI w' WR.heap.size v ((line ++ [a]).map Int.ofNat)) (fun w1 hS1 hJ1 => ?_) ?_
        · have h6 : RI w1 (some ⟨g6, 0, none⟩) [(a : Int)] := OwnI.ri (l := [(a : Int)]) (c := 1) hJ1.2.2
          refine eff_appIs (.tmp 60) (.tmp 62) (by rfl) w1 WR.heap.size (.slice A4 line.length c4) (line.map Int.ofNat) (some ⟨g6, 0, none⟩) [(a : Int)] 1 hJ1.2.1 h6 (fun e => by cases e) (by rfl) (by rfl) (by rw [List.length_map]; simp; omega) hJ1.1.size fun v' w' hown' hb hg => ?_
          have hown2 : OwnI w' WR.heap.size v' ((line ++ [a]).map Int.ofNat) := by rw [List.map_append]; exact hown'
          exact ⟨Mt.of_below (hJ1.1.trans hb), (by have := shapeI hown2; rwa [List.length_map, lens_snoc1] at this), hJ1.1.trans hb, hown2⟩
        rintro _ ⟨A7, c7, rfl⟩
        rw [show List.erase [7, 9, 11] 7 = [9, 11] from rfl]; simp only [Act.put, List.setIfInBounds_toArray, List.set_cons_zero, List.set_cons_succ]
        refine TxtT.one 9 (by as_aux_lemma => kernel_rfl) (by rw [List.getElem?_toArray]; rfl) (by rfl) (by rfl) (fun v => ∃ r : Nat, v = Value.int .i64 (r : Int)) (fun v w' => ∃ (r : Nat) (L' : Int), v = Value.int .i64 (r : Int) ∧ Mt p p WR w' ∧ BsQ n k l p (line ++ [a]) cur r L' w') (fun w1 hS1 hJ1 => ?_) ?_
        · refine Eff.call (f := 41) (args := #[.agg #[.int .i64 (n : Int), .slice A l.length c], .int .i64 (k : Int), .slice A7 (line.length + 1) c7, .pointer (some ⟨p, 0, none⟩)]) (by go_simp) ((Hrec.out w1 A7 c7 hJ1.1 hJ1.2).mono ?_)
          rintro e w' ⟨r, L', rfl, hmt, hq⟩
          exact ⟨_, rfl, (Mt.of_below hJ1.1).trans hmt, ⟨_, rfl⟩, r, L', rfl, (Mt.of_below hJ1.1).trans hmt, hq⟩
        rintro _ ⟨r, rfl⟩
        rw [show List.erase [9, 11] 9 = [11] from rfl]; simp only [Act.put, List.setIfInBounds_toArray, List.set_cons_zero, List.set_cons_succ]
        refine TxtT.pure 11 (by rfl) (by rw [List.getElem?_toArray]; rfl) (by rfl) (by as_aux_lemma => kernel_rfl) (by rfl) ?_; apply Exists.intro; refine ⟨fun w1 hS1 => ?_, ?_⟩; (focus (skip; go_simp; with_reducible rfl))
        rw [show List.erase [11] 11 = [] from rfl]; simp only [Act.put, List.setIfInBounds_toArray, List.set_cons_zero, List.set_cons_succ]
        refine ⟨rfl, fun w3 hS3 hJ3 => ?_⟩
        obtain ⟨r', L', hv, hmt3, hq3⟩ := hJ3
        injection hv with _ hv; have hv := Int.ofNat.inj hv; subst hv
        clear hS3
        have Hq3 := Lib.hid hq3; have Hmt3 := Lib.hid hmt3
        clear hq3 hmt3
        by_cases hrm : r = MV
        · have hQ : BsQ n k l p line L r L' w3 := ⟨Hq3.out.1, by have := Hq3.out.2.1; omega, fun h => by omega, fun _ => by
            have h1 := Hq3.out.2.2.1; have h2 := Hq3.out.2.2.2.1
            rw [lens_snoc1] at h2
            rw [bndB_succ hlen]
            by_cases hc : cur ≤ 0
            · have := h1 hc; omega
            · have := h2 (by omega); omega, fun h => by
            have h3 := Hq3.out.2.2.2.2 h
            rw [hrm, ← Hmv.out] at h3 ⊢
            exact Val.hit (by rw [Hmseq.out]; exact Ham.out) h3⟩
          have hbe : ((r : Int) == (MV : Int)) = true := by rw [beq_iff_eq, hrm]
          have HQ := Lib.hid hQ; have Hrm := Lib.hid hrm
          clear hQ hrm
          go_wp2_with fail
          go_ret
          rw [← Hrm.out]
          exact ⟨_, _, rfl, Hmt5.out.trans (Hmtr.out.trans Hmt3.out), HQ.out⟩
        · have hbe : ((r : Int) == (MV : Int)) = false := by rw [beq_eq_false_iff_ne]; omega
          have hnew : L' ≤ L - 1 ∧ -(bndB n (line.length + 1) : Int) - ((q + 1 : Nat) : Int) ≤ L' ∧ (0 < L' → ∀ x ∈ ms.take (q + 1), ∃ r, r ≠ MV ∧ Val n k (attQ l) (line ++ [x]) r) := by
            have h0 := Hq3.out.2.1; have h1 := Hq3.out.2.2.1; have h2 := Hq3.out.2.2.2.1
            rw [lens_snoc1] at h2
            refine ⟨by omega, ?_, fun h x hx => ?_⟩
            · by_cases hc : cur ≤ 0
              · have := h1 hc; omega
              · have := h2 (by omega); omega
            · rw [Htk.out, List.mem_append, List.mem_singleton] at hx
              rcases hx with hx | rfl
              · exact Hvals.out (by omega) x hx
              · exact ⟨r, hrm, Hq3.out.2.2.2.2 h⟩
          have Hnew := Lib.hid hnew
          clear hnew hrm
          go_wp2_with fail
          go_roundw
          case rel => exact ⟨q + 1, L', by omega, by go_num, Hq3.out.1, Hmtr.out.trans Hmt3.out, Hnew.out.1, Hnew.out.2.1, Hnew.out.2.2⟩
          case measure => simp [intOf]; omega
    · rintro _ ⟨g6, rfl⟩
      rw [show List.erase [2, 4, 6, 7, 9, 11] 6 = [2, 4, 7, 9, 11] from rfl]; simp only [Act.put, List.setIfInBounds_toArray, List.set_cons_zero, List.set_cons_succ]
      refine TxtT.one 2 (by as_aux_lemma => kernel_rfl) (by rw [List.getElem?_toArray]; rfl) (by rfl) (by rfl) (fun v => ∃ g, v = Value.slice (some ⟨g, 0, none⟩) 0 0) (fun v w' => Below WR.heap.size WR w' ∧ OwnI w' WR.heap.size v [] ∧ OwnI w' WR.heap.size (Value.slice (some ⟨g6, 0, none⟩) 1 1) [(a : Int)] ∧ (Value.slice (some ⟨g6, 0, none⟩) 1 1).ownBlock ≠ v.ownBlock) (fun w1 hS1 hJ1 => ?_) ?_
      · (have hB1 := hJ1.1; exact Eff.value (w' := w1.alloc (.cells #[] 3)) (v := .slice (some ⟨w1.heap.size, 0, none⟩) 0 0) (by go_simp) ⟨Mt.of_below (hB1.trans ((newB w1 _).mono hB1.size)), ⟨_, rfl⟩, hB1.trans ((newB w1 _).mono hB1.size), OwnI.mono (own_empty w1) hB1.size, OwnI.below hJ1.2 (newB w1 _), fun e => by have := OwnI.old (g := g6) hJ1.2 rfl; simp [Value.ownBlock] at e; omega⟩)
      rintro _ ⟨g2, rfl⟩
      rw [show List.erase [2, 4, 7, 9, 11] 2 = [4, 7, 9, 11] from rfl]; simp only [Act.put, List.setIfInBounds_toArray, List.set_cons_zero, List.set_cons_succ]
      refine TxtT.one 4 (by as_aux_lemma => kernel_rfl) (by rw [List.getElem?_toArray]; rfl) (by rfl) (by rfl) (fun v => ∃ A c, v = Value.slice A line.length c) (fun v w' => Below WR.heap.size WR w' ∧ OwnI w' WR.heap.size v (line.map Int.ofNat) ∧ OwnI w' WR.heap.size (Value.slice (some ⟨g6, 0, none⟩) 1 1) [(a : Int)]) (fun w1 hS1 hJ1 => ?_) ?_
      · refine eff_appIs (.tmp 58) (.tmp 59) (by rfl) w1 WR.heap.size _ [] AL (line.map Int.ofNat) cl hJ1.2.1 (hrl.below hJ1.1) (fun e => absurd e HAL.out) (by rfl) (by rw [List.length_map]; rfl) (by rw [List.length_map]; simp; omega) hJ1.1.size fun v' w' hown' hb hg => ?_
        rw [List.nil_append] at hown'
        exact ⟨Mt.of_below (hJ1.1.trans hb), (by have := shapeI hown'; rwa [List.length_map] at this), hJ1.1.trans hb, hown', World.ownsRow.kept hJ1.2.2.1 hg (.inr hJ1.2.2.2)⟩
      rintro _ ⟨A4, c4, rfl⟩
      rw [show List.erase [4, 7, 9, 11] 4 = [7, 9, 11] from rfl]; simp only [Act.put, List.setIfInBounds_toArray, List.set_cons_zero, List.set_cons_succ]
      refine TxtT.one 7 (by as_aux_lemma => kernel_rfl) (by rw [List.getElem?_toArray]; rfl) (by rfl) (by rfl) (fun v => ∃ A c, v = Value.slice A (line.length + 1) c) (fun v w' => Below WR.heap.size WR w' ∧ OwnI w' WR.heap.size v ((line ++ [a]).map Int.ofNat)) (fun w1 hS1 hJ1 => ?_) ?_
      · have h6 : RI w1 (some ⟨g6, 0, none⟩) [(a : Int)] := OwnI.ri (l := [(a : Int)]) (c := 1) hJ1.2.2
        refine eff_appIs (.tmp 60) (.tmp 62) (by rfl) w1 WR.heap.size (.slice A4 line.length c4) (line.map Int.ofNat) (some ⟨g6, 0, none⟩) [(a : Int)] 1 hJ1.2.1 h6 (fun e => by cases e) (by rfl) (by rfl) (by rw [List.length_map]; simp; omega) hJ1.1.size fun v' w' hown' hb hg => ?_
        have hown2 : OwnI w' WR.heap.size v' ((line ++ [a]).map Int.ofNat) := by rw [List.map_append]; exact hown'
        exact ⟨Mt.of_below (hJ1.1.trans hb), (by have := shapeI hown2; rwa [List.length_map, lens_snoc1] at this), hJ1.1.trans hb, hown2⟩
      rintro _ ⟨A7, c7, rfl⟩
      rw [show List.erase [7, 9, 11] 7 = [9, 11] from rfl]; simp only [Act.put, List.setIfInBounds_toArray, List.set_cons_zero, List.set_cons_succ]
      refine TxtT.one 9 (by as_aux_lemma => kernel_rfl) (by rw [List.getElem?_toArray]; rfl) (by rfl) (by rfl) (fun v => ∃ r : Nat, v = Value.int .i64 (r : Int)) (fun v w' => ∃ (r : Nat) (L' : Int), v = Value.int .i64 (r : Int) ∧ Mt p p WR w' ∧ BsQ n k l p (line ++ [a]) cur r L' w') (fun w1 hS1 hJ1 => ?_) ?_
      · refine Eff.call (f := 41) (args := #[.agg #[.int .i64 (n : Int), .slice A l.length c], .int .i64 (k : Int), .slice A7 (line.length + 1) c7, .pointer (some ⟨p, 0, none⟩)]) (by go_simp) ((Hrec.out w1 A7 c7 hJ1.1 hJ1.2).mono ?_)
        rintro e w' ⟨r, L', rfl, hmt, hq⟩
        exact ⟨_, rfl, (Mt.of_below hJ1.1).trans hmt, ⟨_, rfl⟩, r, L', rfl, (Mt.of_below hJ1.1).trans hmt, hq⟩
      rintro _ ⟨r, rfl⟩
      rw [show List.erase [9, 11] 9 = [11] from rfl]; simp only [Act.put, List.setIfInBounds_toArray, List.set_cons_zero, List.set_cons_succ]
      refine TxtT.pure 11 (by rfl) (by rw [List.getElem?_toArray]; rfl) (by rfl) (by as_aux_lemma => kernel_rfl) (by rfl) ?_; apply Exists.intro; refine ⟨fun w1 hS1 => ?_, ?_⟩; (focus (skip; go_simp; with_reducible rfl))
      rw [show List.erase [11] 11 = [] from rfl]; simp only [Act.put, List.setIfInBounds_toArray, List.set_cons_zero, List.set_cons_succ]
      refine ⟨rfl, fun w3 hS3 hJ3 => ?_⟩
      obtain ⟨r', L', hv, hmt3, hq3⟩ := hJ3
      injection hv with _ hv; have hv := Int.ofNat.inj hv; subst hv
      clear hS3
      have Hq3 := Lib.hid hq3; have Hmt3 := Lib.hid hmt3
      clear hq3 hmt3
      by_cases hrm : r = MV
      · have hQ : BsQ n k l p line L r L' w3 := ⟨Hq3.out.1, by have := Hq3.out.2.1; omega, fun h => by omega, fun _ => by
          have h1 := Hq3.out.2.2.1; have h2 := Hq3.out.2.2.2.1
          rw [lens_snoc1] at h2
          rw [bndB_succ hlen]
          by_cases hc : cur ≤ 0
          · have := h1 hc; omega
          · have := h2 (by omega); omega, fun h => by
          have h3 := Hq3.out.2.2.2.2 h
          rw [hrm, ← Hmv.out] at h3 ⊢
          exact Val.hit (by rw [Hmseq.out]; exact Ham.out) h3⟩
        have hbe : ((r : Int) == (MV : Int)) = true := by rw [beq_iff_eq, hrm]
        have HQ := Lib.hid hQ; have Hrm := Lib.hid hrm
        clear hQ hrm
        go_wp2_with fail
        go_ret
        rw [← Hrm.out]
        exact ⟨_, _, rfl, Hmt5.out.trans (Hmtr.out.trans Hmt3.out), HQ.out⟩
      · have hbe : ((r : Int) == (MV : Int)) = false := by rw [beq_eq_false_iff_ne]; omega
        have hnew : L' ≤ L - 1 ∧ -(bndB n (line.length + 1) : Int) - ((q + 1 : Nat) : Int) ≤ L' ∧ (0 < L' → ∀ x ∈ ms.take (q + 1), ∃ r, r ≠ MV ∧ Val n k (attQ l) (line ++ [x]) r) := by
          have h0 := Hq3.out.2.1; have h1 := Hq3.out.2.2.1; have h2 := Hq3.out.2.2.2.1
          rw [lens_snoc1] at h2
          refine ⟨by omega, ?_, fun h x hx => ?_⟩
          · by_cases hc : cur ≤ 0
            · have := h1 hc; omega
            · have := h2 (by omega); omega
          · rw [Htk.out, List.mem_append, List.mem_singleton] at hx
            rcases hx with hx | rfl
            · exact Hvals.out (by omega) x hx
            · exact ⟨r, hrm, Hq3.out.2.2.2.2 h⟩
        have Hnew := Lib.hid hnew
        clear hnew hrm
        go_wp2_with fail
        go_roundw
        case rel => exact ⟨q + 1, L', by omega, by go_num, Hq3.out.1, Hmtr.out.trans Hmt3.out, Hnew.out.1, Hnew.out.2.1, Hnew.out.2.2⟩
        case measure => simp [intOf]; omega
end Go.Proofs.YtncimnfhfomddaaDoor
