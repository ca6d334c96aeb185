/- search.finder: can, possible, limit. -/
import Derived.Test.YtcpombepajapjaaGreatDoorFinB
import Derived.Deep.DeepCutAuto
import Derived.Test.YtcpombepajapjaaGreatDoorTxtZ
namespace Go.Proofs.YtcpombepajapjaaGreatDoor
open Go.ChangeShapes Go.WideShapes Go.ChangeAt Go.RowKit

theorem i64_and16 : ∀ a b : Fin 16, bits .and .i64 ((a.val : Nat) : Int) ((b.val : Nat) : Int) = ((a.val &&& b.val : Nat) : Int) := by decide +kernel
theorem i64_and_small {a b : Nat} (ha : a ≤ 14) (hb : b ≤ 14) : bits .and .i64 (a : Int) (b : Int) = ((a &&& b : Nat) : Int) := i64_and16 ⟨a, by omega⟩ ⟨b, by omega⟩

theorem canL_take {D : Nat → Nat} {a : List Int} {x k : Nat} (hk : k < a.length) : canL D (a.take (k + 1)) x = canL D (a.take k) x ++ if (D a[k].toNat &&& x) ≠ 0 then [a[k]] else [] := by
  unfold canL
  rw [List.take_succ_eq_append_getElem hk, List.filter_append]
  simp only [List.filter_cons, List.filter_nil]
  simp
theorem canL_len (D : Nat → Nat) (a : List Int) (x : Nat) : (canL D a x).length ≤ a.length := List.length_filter_le _ _

set_option maxRecDepth 100000 in
set_option maxHeartbeats 2000000 in
theorem can_any (f n : Nat) (vat : Value) (D : Nat → Nat) (v : Value) (full : Bool) (A : Option Addr) (a : List Int) (c : Nat) (x : Nat) (w : World) (h : Fnd w f n vat D v full) (ha : RI w A a) (hal : a.length ≤ 100000) (hr : ∀ k ∈ a, 0 ≤ k ∧ k < 40) (hD : ∀ k, D k ≤ 14) (hx : x ≤ 14) :
    Calls Tryz.prog 100 #[.pointer (some ⟨f, 0, none⟩), .slice A a.length c, .int .i64 (x : Int)] w (RetI (canL D a x) w) := by
  have hl := Blk.lt h
  go_enter Tryz.func100, Tryz.ntmps100
  go_wp2_with fail
  go_loopw [7, 12] (fun u i wr => ∃ k : Nat, k ≤ a.length ∧ i = .int .i64 k ∧ OwnI wr w.heap.size u (canL D (a.take k) x) ∧ Below w.heap.size w wr) (fun _ i _ => a.length - (intOf i).toNat)
  case atStart => exact ⟨0, Nat.zero_le _, rfl, OwnI.nil _ _, Below.refl _ _⟩
  case round =>
    obtain ⟨k, hk, rfl, hown, hbl⟩ := hrel
    by_cases hlt : k < a.length
    case neg =>
      have e : a.take k = a := List.take_of_length_le (by omega)
      rw [e] at hown
      go_wp2_with fail
      go_ret
      exact RetI.mk hown hbl
    case pos =>
    obtain ⟨b, o, rfl, hc⟩ := (ha.below hbl).at_ hlt
    have hlt' : (k : Int) < (a.length : Int) := by omega
    obtain ⟨q0, q1⟩ := hr a[k] (List.getElem_mem hlt)
    obtain ⟨kk, hkk⟩ := Int.eq_ofNat_of_zero_le q0
    have hstep := canL_take (D := D) (x := x) hlt
    rw [hkk] at hc q0 q1 hstep
    rw [Int.toNat_natCast] at hstep
    have hcd := Fnd.at_ (Blk.below h hbl hl : Fnd wr f n vat D v full) (show kk < 40 by omega)
    have Hown := Lib.hid hown; have Hstep := Lib.hid hstep
    have hlen : (canL D (a.take k) x).length ≤ 1000000 := by have := canL_len D (a.take k) x; rw [List.length_take] at this; omega
    clear hown hstep hkk
    have hand := i64_and_small (hD kk) hx
    by_cases hz : (D kk &&& x) = 0
    · have hz2 : (bits .and .i64 (D kk : Int) (x : Int) != 0) = false := by rw [hand, hz]; rfl
      have Hz := Lib.hid hz
      clear hz hand
      go_wp2_with fail
      go_roundw
      case rel => exact ⟨k + 1, by omega, by go_num, by rw [Hstep.out, if_neg (by rw [Hz.out]; simp), List.append_nil]; exact Hown.out, hbl⟩
      case measure => simp [intOf]; omega
    · have hz2 : (bits .and .i64 (D kk : Int) (x : Int) != 0) = true := by rw [hand, bne_iff_ne]; omega
      have Hz := Lib.hid hz
      clear hz hand
      go_wp2_with (at_builtin; refine wpList_appI (by rfl) _ _ (by rfl) wr w.heap.size _ _ (kk : Int) Hown.out (by rfl) (by rfl) hlen hbl.size ?_; intro v' w4 hown' hb4 hg4)
      go_roundw
      case rel => exact ⟨k + 1, by omega, by go_num, by rw [Hstep.out, if_pos Hz.out]; exact hown', hbl.trans hb4⟩
      case measure => simp [intOf]; omega

def attLs (n : Nat) (l : List (Int × Int)) : List (List Int) := (List.range n).map fun (i : Nat) => attackersL l (i : Int)
theorem attLs_length (n : Nat) (l : List (Int × Int)) : (attLs n l).length = n := by simp [attLs]
theorem attLs_at {n : Nat} {l : List (Int × Int)} {i : Nat} (h : i < (attLs n l).length) : (attLs n l)[i] = attackersL l (i : Int) := by simp [attLs]
/-- the state of the finder that the helpers look at -/
structure FSt (w : World) (f n B : Nat) (l : List (Int × Int)) (AT : Option Addr) (cA : Nat) (D : Nat → Nat) (v : Value) (full : Bool) : Prop where
  fin : Fnd w f n (.slice AT n cA) D v full
  att : AttOk w f B AT (attLs n l)
  top : subD D (fullD n)
  hv : InR n l
  hB : B ≤ w.heap.size
  hf : f < B
namespace FSt
variable {w w' : World} {f n B : Nat} {l : List (Int × Int)} {AT : Option Addr} {cA : Nat} {D : Nat → Nat} {v : Value} {full : Bool}
theorem below (h : FSt w f n B l AT cA D v full) (hb : Below w.heap.size w w') : FSt w' f n B l AT cA D v full :=
  { h with fin := Blk.below h.fin hb (Blk.lt h.fin), att := h.att.near (Near.of_below (hb.mono h.hB)), hB := Nat.le_trans h.hB hb.size }
theorem upd {D' : Nat → Nat} (h : FSt w f n B l AT cA D v full) (hs : subD D' D) (hf : Fnd w' f n (.slice AT n cA) D' v full) (hg : w.grownBy w' (some f)) : FSt w' f n B l AT cA D' v full :=
  { h with fin := hf, att := h.att.near (Near.of_grown hg h.hB), top := hs.trans h.top, hB := Nat.le_trans h.hB hg.size }
theorem row (h : FSt w f n B l AT cA D v full) {i : Nat} (hi : i < n) : ∃ b o A' c', AT = some ⟨b, o, none⟩ ∧ w.cell? ⟨b, o + i, none⟩ = some (.slice A' (attackersL l (i : Int)).length c') ∧ RI w A' (attackersL l (i : Int)) := by
  have hl : i < (attLs n l).length := by rw [attLs_length]; exact hi
  have := h.att.at_ hl
  rw [attLs_at hl] at this
  exact this
theorem rng (h : FSt w f n B l AT cA D v full) (i : Int) : ∀ k ∈ attackersL l i, 0 ≤ k ∧ k < 40 := fun k hk => by
  have h1 := h.hv.2.2 _ (mem_attackersL.1 hk)
  have h2 := h.hv.1
  simp only at h1
  omega
theorem len (h : FSt w f n B l AT cA D v full) (i : Int) : (attackersL l i).length ≤ 100000 := Nat.le_trans (attackersL_len l i) h.hv.2.1
end FSt

def m1V (a : Bool) : Nat := if a then 12 else 14
def m2V (a b : Bool) : Nat := m1V a - if b then 4 else 0
def m3V (a b c : Bool) : Nat := m2V a b - if c then 8 else 0
theorem poss_m3 (D : Nat → Nat) (a : List Int) : possN D a = m3V (decide ((canL D a 4).length < a.length)) (decide ((canL D a 2).length = 0)) (decide ((canL D a 12).length < a.length) || decide ((canL D a 8).length = 0)) := by
  unfold possN m3V m2V m1V
  by_cases h1 : (canL D a 4).length < a.length <;> by_cases h2 : (canL D a 2).length = 0 <;> by_cases h3 : (canL D a 12).length < a.length <;> by_cases h4 : (canL D a 8).length = 0 <;> simp [h1, h2, h3, h4]
theorem m2V_an : ∀ a b : Bool, bits .andNot .i64 (m1V a : Int) 4 = (m2V a true : Int) ∧ m2V a false = m1V a ∧ bits .andNot .i64 (m2V a b : Int) 8 = (m3V a b true : Int) ∧ m3V a b false = m2V a b ∧ bits .andNot .i64 14 2 = (m1V true : Int) := by decide +kernel

set_option maxRecDepth 100000 in
set_option maxHeartbeats 4000000 in
theorem possible_any (f n B : Nat) (l : List (Int × Int)) (AT : Option Addr) (cA : Nat) (D : Nat → Nat) (v : Value) (full : Bool) (i : Nat) (w : World) (h : FSt w f n B l AT cA D v full) (hi : i < n) :
    Calls Tryz.prog 93 #[.pointer (some ⟨f, 0, none⟩), .int .i64 (i : Int)] w (RetB (.int .i64 (possN D (attackersL l (i : Int)) : Int)) w) := by
  obtain ⟨b, o, A', c', rfl, hc, hri⟩ := h.row hi
  have hi' : (i : Int) < (n : Int) := by omega
  have hrng := h.rng (i : Int)
  have hlen := h.len (i : Int)
  have hD := full_le h.top
  have hC : ∀ (x : Nat) (w1 : World), x ≤ 14 → Below w.heap.size w w1 → Calls Tryz.prog 100 #[.pointer (some ⟨f, 0, none⟩), .slice A' (attackersL l (i : Int)).length c', .int .i64 (x : Int)] w1 (RetI (canL D (attackersL l (i : Int)) x) w1) := fun x w1 hx hb =>
    can_any f n _ D v full A' _ c' x w1 (h.below hb).fin (hri.below hb) hlen hrng hD hx
  rw [poss_m3]
  have e1 := h.fin.c1
  generalize attackersL l (i : Int) = a at *
  have HC := Lib.hid hC
  clear hC h hrng hri
  obtain ⟨q1, h1⟩ : ∃ q, decide ((canL D a 4).length < a.length) = q := ⟨_, rfl⟩
  obtain ⟨q2, h2⟩ : ∃ q, decide ((canL D a 2).length = 0) = q := ⟨_, rfl⟩
  obtain ⟨q3, h3⟩ : ∃ q, decide ((canL D a 12).length < a.length) = q := ⟨_, rfl⟩
  obtain ⟨q4, h4⟩ : ∃ q, decide ((canL D a 8).length = 0) = q := ⟨_, rfl⟩
  rw [h1, h2, h3, h4]
  have g2 : (((canL D a 2).length : Int) == 0) = q2 := by rw [← h2, Bool.eq_iff_iff]; simp
  have g4 : (((canL D a 8).length : Int) == 0) = q4 := by rw [← h4, Bool.eq_iff_iff]; simp
  clear h2 h4
  have hM := Lib.hid m2V_an
  go_enter Tryz.func93, Tryz.ntmps93
  go_wp2_with fail
  refine (HC.out 4 w (by omega) (Below.refl _ _)).mono ?_
  rintro e w1 ⟨A1, c1, rfl, _, _, _, hb1⟩
  go_upto_if 20 with fail
  go_cut [6] (fun s6 wx => s6 = .int .i64 (m1V q1 : Int) ∧ Below w.heap.size w wx)
  case first =>
    cases q1
    · go_wp2_with fail
      go_meet
      exact ⟨rfl, hb1⟩
    · have hm := (hM.out true true).2.2.2.2
      go_wp2_with fail
      go_meet
      exact ⟨rfl, hb1⟩
  obtain ⟨rfl, hb2⟩ := hcut
  clear hb1
  go_wp2_with fail
  refine (HC.out 2 wc (by omega) hb2).mono ?_
  rintro e w2 ⟨A2, c2, rfl, _, _, _, hb3⟩
  have hbb := endB hb2 hb3
  go_upto_if 27 with fail
  go_cut [6] (fun s6 wx => s6 = .int .i64 (m2V q1 q2 : Int) ∧ Below w.heap.size w wx)
  case first =>
    cases q2
    · have hm := (hM.out q1 true).2.1
      go_wp2_with fail
      go_meet
      exact ⟨by first | rw [hm] | rfl, hbb⟩
    · have hm := (hM.out q1 true).1
      go_wp2_with fail
      go_meet
      exact ⟨by first | rw [hm] | rfl, hbb⟩
  obtain ⟨rfl, hb4⟩ := hcut
  clear hb2 hb3 hbb
  go_wp2_with fail
  refine (HC.out 12 _ (by omega) hb4).mono ?_
  rintro e w3 ⟨A3, c3, rfl, _, _, _, hb5⟩
  have hbb := endB hb4 hb5
  cases q3
  · go_wp2_with fail
    refine (HC.out 8 _ (by omega) hbb).mono ?_
    rintro e w4 ⟨A4, c4, rfl, _, _, _, hb6⟩
    have hbc := endB hbb hb6
    try rw [Bool.false_or]
    cases q4
    · have hm := (hM.out q1 q2).2.2.2.1
      go_wp2_with fail
      go_ret
      exact ⟨by first | rw [hm] | rfl, hbc⟩
    · have hm := (hM.out q1 q2).2.2.1
      go_wp2_with fail
      go_ret
      exact ⟨by first | rw [hm] | rfl, hbc⟩
  · try rw [Bool.true_or]
    have hm := (hM.out q1 q2).2.2.1
    go_wp2_with fail
    go_ret
    exact ⟨by first | rw [hm] | rfl, hbb⟩

def maskD (D : Nat → Nat) (s : List Int) (m : Nat) : Nat → Nat := fun k => if (k : Int) ∈ s then D k &&& m else D k
theorem maskD_nil (D : Nat → Nat) (m : Nat) : maskD D [] m = D := by funext k; simp [maskD]
theorem maskD_step {D : Nat → Nat} {a : List Int} {m k kk : Nat} (hk : k < a.length) (hkk : a[k] = (kk : Int)) : maskD D (a.take (k + 1)) m = updN (maskD D (a.take k) m) kk (maskD D (a.take k) m kk &&& m) := by
  funext j
  unfold maskD updN
  rw [List.take_succ_eq_append_getElem hk, hkk]
  by_cases e : j = kk
  · subst e
    rw [if_pos (List.mem_append_right _ (List.mem_singleton.2 rfl)), if_pos rfl]
    split
    · rw [Nat.and_assoc, Nat.and_self]
    · rfl
  · rw [if_neg e]
    have : (j : Int) ∈ a.take k ++ [(kk : Int)] ↔ (j : Int) ∈ a.take k := by
      rw [List.mem_append, List.mem_singleton]
      constructor
      · rintro (h | h)
        · exact h
        · omega
      · exact .inl
    simp only [this]
theorem mask_sub (D : Nat → Nat) (s : List Int) (m : Nat) : subD (maskD D s m) D := fun k => by
  unfold maskD
  split
  · exact andS _ _
  · exact Nat.and_self _
theorem lim1_2 {D : Nat → Nat} {a : List Int} {i : Nat} (h : D i = 2) : lim1 D a i = maskD D a 4 := by funext k; unfold lim1 maskD; rw [if_pos h]
theorem lim1_8 {D : Nat → Nat} {a : List Int} {i : Nat} (h : D i = 8) : lim1 D a i = maskD D a 12 := by funext k; simp [lim1, maskD, h]
theorem lim1_o {D : Nat → Nat} {a : List Int} {i : Nat} (h2 : D i ≠ 2) (h8 : D i ≠ 8) : lim1 D a i = D := by funext k; unfold lim1; rw [if_neg h2, if_neg h8]; split <;> rfl
/-- a list that can be read, no cell of it in block f -/
def RIf (w : World) (f : Nat) (A : Option Addr) (a : List Int) : Prop := ∀ j (hj : j < a.length), ∃ b o, A = some ⟨b, o, none⟩ ∧ b ≠ f ∧ w.cell? ⟨b, o + j, none⟩ = some (.int .i64 a[j])
theorem RIf.grown {w w' : World} {f : Nat} {A : Option Addr} {a : List Int} (h : RIf w f A a) (hg : w.grownBy w' (some f)) : RIf w' f A a := fun j hj => by
  obtain ⟨b, o, hA, hne, hc⟩ := h j hj
  exact ⟨b, o, hA, hne, hg.cell hc (by simpa using hne)⟩
theorem RIf.ri {w : World} {f : Nat} {A : Option Addr} {a : List Int} (h : RIf w f A a) : RI w A a := fun j hj => by
  obtain ⟨b, o, hA, _, hc⟩ := h j hj
  exact ⟨b, o, hA, by rw [hc]; simp [List.getD, hj]⟩
theorem FSt.rowf {w : World} {f n B : Nat} {l : List (Int × Int)} {AT : Option Addr} {cA : Nat} {D : Nat → Nat} {v : Value} {full : Bool} (h : FSt w f n B l AT cA D v full) {i : Nat} (hi : i < n) :
    ∃ b o A' c', AT = some ⟨b, o, none⟩ ∧ w.cell? ⟨b, o + i, none⟩ = some (.slice A' (attackersL l (i : Int)).length c') ∧ RIf w f A' (attackersL l (i : Int)) := by
  have hl : i < (attLs n l).length := by rw [attLs_length]; exact hi
  obtain ⟨b, o, A', c', hA, _, _, hc, hj⟩ := h.att i hl
  rw [attLs_at hl] at hc
  refine ⟨b, o, A', c', hA, hc, fun j hjl => ?_⟩
  obtain ⟨b', o', hA', hf', _, hc'⟩ := hj j (by rw [attLs_at hl]; exact hjl)
  refine ⟨b', o', hA', hf', ?_⟩
  rw [hc']
  simp only [attLs_at hl]
theorem Fnd.drewN {w : World} {f n : Nat} {vat v : Value} {D : Nat → Nat} {full : Bool} (h : Fnd w f n vat D v full) (k : Nat) : Fnd (w.drewN k) f n vat D v full := h

/-- the call returns nothing; the finder's labels are E -/
def RetFn (f n : Nat) (vat : Value) (E : Nat → Nat) (v : Value) (full : Bool) (w : World) : Ending → World → Prop := fun e w' => e = .returned (.tuple #[]) ∧ Fnd w' f n vat E v full ∧ w.grownBy w' (some f)

theorem limD_one {D : Nat → Nat} {a : List Int} {i m kk : Nat} (hm : aloneN (D i) = m) (h : (canL (lim1 D a i) a m).length = 1) (hk : (canL (lim1 D a i) a m).getD 0 0 = (kk : Int)) : limD D a i = updN (lim1 D a i) kk (lim1 D a i kk &&& m) := by
  subst hm
  unfold limD
  rw [if_pos h, hk]
  funext j
  unfold updN
  by_cases e : j = kk
  · subst e; rw [if_pos rfl, if_pos rfl]
  · rw [if_neg (by omega), if_neg e]
theorem limD_not {D : Nat → Nat} {a : List Int} {i m : Nat} (hm : aloneN (D i) = m) (h : ¬ (canL (lim1 D a i) a m).length = 1) : limD D a i = lim1 D a i := by
  subst hm
  unfold limD
  rw [if_neg h]

set_option maxRecDepth 100000 in
set_option maxHeartbeats 8000000 in
theorem limit_any (f n B : Nat) (l : List (Int × Int)) (AT : Option Addr) (cA : Nat) (D : Nat → Nat) (v : Value) (full : Bool) (i : Nat) (w : World) (h : FSt w f n B l AT cA D v full) (hi : i < n) :
    Calls Tryz.prog 94 #[.pointer (some ⟨f, 0, none⟩), .int .i64 (i : Int)] w (RetFn f n (.slice AT n cA) (limD D (attackersL l (i : Int)) i) v full w) := by
  obtain ⟨b, o, A', c', rfl, hc, hrf⟩ := h.rowf hi
  have hi' : (i : Int) < (n : Int) := by omega
  have hrng := h.rng (i : Int)
  have hlen := h.len (i : Int)
  have hD := full_le h.top
  have hn := h.hv.1
  have hfl := Blk.lt h.fin
  have e1 := h.fin.c1
  have hi4 : (i : Int) < 40 := by omega
  have hi40 : i < 40 := by omega
  have hdi := h.fin.at_ hi40
  have hF := h.fin
  have hE : ∀ k, lim1 D (attackersL l (i : Int)) i k ≤ 14 := fun k => Nat.le_trans ((lim1_sub D _ i).le k) (hD k)
  have hin : ∀ (m : Nat), ∀ x ∈ canL (lim1 D (attackersL l (i : Int)) i) (attackersL l (i : Int)) m, ∃ kk : Nat, x = kk ∧ kk < 40 := fun m x hx => by
    obtain ⟨h1, _⟩ := mem_canL.1 hx
    obtain ⟨q0, q1⟩ := hrng x h1
    exact ⟨x.toNat, by omega, by omega⟩
  generalize attackersL l (i : Int) = a at *
  have hC : ∀ (m : Nat) (wx : World), m ≤ 14 → Fnd wx f n (.slice (some ⟨b, o, none⟩) n cA) (lim1 D a i) v full → w.grownBy wx (some f) → Calls Tryz.prog 100 #[.pointer (some ⟨f, 0, none⟩), .slice A' a.length c', .int .i64 (m : Int)] wx (RetI (canL (lim1 D a i) a m) wx) := fun m wx hm hf hg =>
    can_any f n _ (lim1 D a i) v full A' a c' m wx hf (hrf.grown hg).ri hlen hrng hE hm
  have HC := Lib.hid hC; have HF := Lib.hid hF; have HD := Lib.hid hD; have HE := Lib.hid hE; have Hrng := Lib.hid hrng; have Hrf := Lib.hid hrf; have Hin := Lib.hid hin
  clear hC h hF hD hE hrng hrf hin
  go_enter Tryz.func94, Tryz.ntmps94
  by_cases x2 : D i = 2
  · have Hx := Lib.hid x2
    rw [x2] at hdi
    clear x2
    have hal : aloneN (D i) = 0 := by rw [Hx.out]; rfl
    have hl1 : Hid (lim1 D a i = maskD D a 4) := Lib.hid (lim1_2 Hx.out)
    go_wp2_with fail
    go_loopw [28] (fun j wr => ∃ k : Nat, k ≤ a.length ∧ j = .int .i64 k ∧ Fnd wr f n (.slice (some ⟨b, o, none⟩) n cA) (maskD D (a.take k) 4) v full ∧ w.grownBy wr (some f)) (fun j _ => a.length - (intOf j).toNat)
    case atStart => exact ⟨0, Nat.zero_le _, rfl, by rw [List.take_zero, maskD_nil]; exact HF.out, grownBy_refl _ _⟩
    case round =>
      obtain ⟨k, hk, rfl, hF1, hg⟩ := hrel
      by_cases hlt : k < a.length
      case pos =>
        obtain ⟨b1, o1, rfl, _, hc1⟩ := (Hrf.out.grown hg) k hlt
        obtain ⟨q0, q1⟩ := Hrng.out _ (List.getElem_mem hlt)
        obtain ⟨kk, hkk⟩ := Int.eq_ofNat_of_zero_le q0
        rw [hkk] at hc1 q1 q0
        have hk40 : kk < 40 := by omega
        have hcd := hF1.at_ hk40
        have hfz := hF1.frozen (2 + kk)
        have Hstep := Lib.hid (maskD_step (D := D) (m := 4) hlt hkk)
        have hand : bits .and .i64 (maskD D (a.take k) 4 kk : Int) 4 = ((maskD D (a.take k) 4 kk &&& 4 : Nat) : Int) := i64_and_small (Nat.le_trans ((mask_sub D (a.take k) 4).le kk) (HD.out kk)) (show 4 ≤ 14 by omega)
        clear hkk hcd hfz
        go_wp2_with fail
        refine wp_region_textZ [10] (fun w' => Below wr.heap.size wr w') (fun _ => True) (by kernel_rfl) (by kernel_rfl) (by kernel_rfl) (by kernel_rfl) (Below.refl _ _).drew trivial ?_
        repeat (first
          | (refine TxtZL.skip (by rfl) ?_; simp only [Act.put, List.setIfInBounds_toArray, List.set_cons_zero, List.set_cons_succ])
          | (refine TxtZL.take (by rfl) (by rfl) ?_; apply Exists.intro; refine ⟨fun w1 hS1 => ?_, ?_⟩; (focus ((have g1 := Fnd.at_ (Blk.below hF1 hS1 (Blk.lt hF1)) hk40); go_simp; with_reducible rfl)); simp only [Act.put, List.setIfInBounds_toArray, List.set_cons_zero, List.set_cons_succ])
          | (refine TxtZL.takeE' (by rfl) (by rfl) ?_; apply Exists.intro; refine ⟨fun w1 hS1 => ?_, ?_⟩; (focus ((have g1 := Fnd.at_ (Blk.below hF1 hS1 (Blk.lt hF1)) hk40); go_simp; with_reducible rfl)); simp only [Act.put, List.setIfInBounds_toArray, List.set_cons_zero, List.set_cons_succ]))
        refine TxtZL.last (fun w' => Fnd w' f n (.slice (some ⟨b, o, none⟩) n cA) (maskD D (a.take (k + 1)) 4) v full ∧ w.grownBy w' (some f)) (by rfl) (by rfl) (fun w1 hS1 _ => ?_) ?_
        · have hF3 : Fnd w1 f n (.slice (some ⟨b, o, none⟩) n cA) (maskD D (a.take k) 4) v full := Blk.below hF1 hS1 (Blk.lt hF1)
          have hfz := hF3.frozen (2 + kk)
          have hcf := hF3.at_ hk40
          exact Eff.skip (w' := w1.setCell ⟨f, 2 + kk, none⟩ (.int .i64 ((maskD D (a.take k) 4 kk &&& 4 : Nat) : Int))) (by go_simp) ⟨by rw [Hstep.out]; exact hF3.put hk40 _, grownBy_trans hg (grownBy_trans (grownBy_of_below hS1 _) (grownBy_setCell _ f (2 + kk) _))⟩
        rintro v0 w1 ⟨hE1, hE2⟩
        go_wp2_with fail
        go_roundw
        case rel => exact ⟨k + 1, by omega, by go_num, hE1, hE2⟩
        case measure => simp [intOf]; omega
      case neg =>
      rw [List.take_of_length_le (by omega), ← hl1.out] at hF1
      go_wp2_with fail
      refine (HC.out 0 wr (by omega) hF1 hg).mono ?_
      rintro e w1 ⟨A1, c1, rfl, _, hr1, _, hb⟩
      have hF2 : Fnd w1 f n (.slice (some ⟨b, o, none⟩) n cA) (lim1 D a i) v full := Blk.below hF1 hb (Blk.lt hF1)
      have hg2 := grownBy_trans hg (grownBy_of_below hb (some f))
      by_cases hl : (canL (lim1 D a i) a 0).length = 1
      · have hd : (((canL (lim1 D a i) a 0).length : Int) == 1) = true := by simp [hl]
        have hpos : 0 < (canL (lim1 D a i) a 0).length := by omega
        obtain ⟨b2, o2, rfl, hc2⟩ := hr1.at_ hpos
        obtain ⟨kk, hkk, hk40⟩ := Hin.out 0 _ (List.getElem_mem hpos)
        rw [hkk] at hc2
        have hlast := Lib.hid (limD_one (D := D) (a := a) (i := i) (m := 0) hal hl (by rw [List.getD_eq_getElem?_getD, List.getElem?_eq_getElem hpos, Option.getD_some]; exact hkk))
        have hcd := hF2.at_ hk40
        have hfz := hF2.frozen (2 + kk)
        have hand : bits .and .i64 (lim1 D a i kk : Int) 0 = ((lim1 D a i kk &&& 0 : Nat) : Int) := i64_and_small (HE.out kk) (show 0 ≤ 14 by omega)
        have hk0 : (0 : Int) ≤ (kk : Int) := by omega
        have hk1 : (kk : Int) < 40 := by omega
        have Hl := Lib.hid hl
        clear hl hkk hr1 hcd hfz hd
        rw [Nat.add_zero] at hc2
        have hd : (((canL (lim1 D a i) a 0).length : Int) == 1) = true := by simp [Hl.out]
        go_wp2_with fail
        refine wp_region_textZ [13] (fun w' => Below w1.heap.size w1 w') (fun _ => True) (by kernel_rfl) (by kernel_rfl) (by kernel_rfl) (by kernel_rfl) (Below.refl _ _).drew trivial ?_
        repeat (first
          | (refine TxtZL.skip (by rfl) ?_; simp only [Act.put, List.setIfInBounds_toArray, List.set_cons_zero, List.set_cons_succ])
          | (refine TxtZL.take (by rfl) (by rfl) ?_; apply Exists.intro; refine ⟨fun w1 hS1 => ?_, ?_⟩; (focus ((have g1 := Fnd.at_ (Blk.below hF2 hS1 (Blk.lt hF2)) hk40; have g2 := (hS1.cell (p := ⟨b2, o2, none⟩) (lt_of_cell hc2)).trans hc2); go_simp; with_reducible rfl)); simp only [Act.put, List.setIfInBounds_toArray, List.set_cons_zero, List.set_cons_succ])
          | (refine TxtZL.takeE' (by rfl) (by rfl) ?_; apply Exists.intro; refine ⟨fun w1 hS1 => ?_, ?_⟩; (focus ((have g1 := Fnd.at_ (Blk.below hF2 hS1 (Blk.lt hF2)) hk40; have g2 := (hS1.cell (p := ⟨b2, o2, none⟩) (lt_of_cell hc2)).trans hc2); go_simp; with_reducible rfl)); simp only [Act.put, List.setIfInBounds_toArray, List.set_cons_zero, List.set_cons_succ]))
        refine TxtZL.last (fun w' => Fnd w' f n (.slice (some ⟨b, o, none⟩) n cA) (limD D a i) v full ∧ w.grownBy w' (some f)) (by rfl) (by rfl) (fun w2 hS1 _ => ?_) ?_
        · have hF3 : Fnd w2 f n (.slice (some ⟨b, o, none⟩) n cA) (lim1 D a i) v full := Blk.below hF2 hS1 (Blk.lt hF2)
          have hfz := hF3.frozen (2 + kk)
          have hcf := hF3.at_ hk40
          exact Eff.skip (w' := w2.setCell ⟨f, 2 + kk, none⟩ (.int .i64 ((lim1 D a i kk &&& 0 : Nat) : Int))) (by go_simp) ⟨by rw [hlast.out]; exact hF3.put hk40 _, grownBy_trans hg2 (grownBy_trans (grownBy_of_below hS1 _) (grownBy_setCell _ f (2 + kk) _))⟩
        rintro v0 w2 ⟨hE1, hE2⟩
        go_wp2_with fail
        refine bodyPost_ret (results_none rfl _ _ _) rfl ?_
        exact ⟨rfl, hE1, hE2⟩
      · have hd : (((canL (lim1 D a i) a 0).length : Int) == 1) = false := by simp; omega
        have hlast := Lib.hid (limD_not (D := D) (a := a) (i := i) (m := 0) hal hl)
        clear hl hr1
        go_wp2_with fail
        refine bodyPost_ret (results_none rfl _ _ _) rfl ?_
        exact ⟨rfl, by rw [hlast.out]; exact hF2, hg2⟩
  by_cases x4 : D i = 4
  · have Hx := Lib.hid x4
    rw [x4] at hdi
    clear x4
    have hal : aloneN (D i) = 2 := by rw [Hx.out]; rfl
    have hl1 : Hid (lim1 D a i = D) := Lib.hid (lim1_o (by rw [Hx.out]; decide) (by rw [Hx.out]; decide))
    have hg : w.grownBy w (some f) := grownBy_refl _ _
    have hF1 : Fnd w f n (.slice (some ⟨b, o, none⟩) n cA) (lim1 D a i) v full := by rw [hl1.out]; exact HF.out
    go_wp2_with fail
    refine (HC.out 2 w (by omega) hF1 hg).mono ?_
    rintro e w1 ⟨A1, c1, rfl, _, hr1, _, hb⟩
    have hF2 : Fnd w1 f n (.slice (some ⟨b, o, none⟩) n cA) (lim1 D a i) v full := Blk.below hF1 hb (Blk.lt hF1)
    have hg2 := grownBy_trans hg (grownBy_of_below hb (some f))
    by_cases hl : (canL (lim1 D a i) a 2).length = 1
    · have hd : (((canL (lim1 D a i) a 2).length : Int) == 1) = true := by simp [hl]
      have hpos : 0 < (canL (lim1 D a i) a 2).length := by omega
      obtain ⟨b2, o2, rfl, hc2⟩ := hr1.at_ hpos
      obtain ⟨kk, hkk, hk40⟩ := Hin.out 2 _ (List.getElem_mem hpos)
      rw [hkk] at hc2
      have hlast := Lib.hid (limD_one (D := D) (a := a) (i := i) (m := 2) hal hl (by rw [List.getD_eq_getElem?_getD, List.getElem?_eq_getElem hpos, Option.getD_some]; exact hkk))
      have hcd := hF2.at_ hk40
      have hfz := hF2.frozen (2 + kk)
      have hand : bits .and .i64 (lim1 D a i kk : Int) 2 = ((lim1 D a i kk &&& 2 : Nat) : Int) := i64_and_small (HE.out kk) (show 2 ≤ 14 by omega)
      have hk0 : (0 : Int) ≤ (kk : Int) := by omega
      have hk1 : (kk : Int) < 40 := by omega
      have Hl := Lib.hid hl
      clear hl hkk hr1 hcd hfz hd
      rw [Nat.add_zero] at hc2
      have hd : (((canL (lim1 D a i) a 2).length : Int) == 1) = true := by simp [Hl.out]
      go_wp2_with fail
      refine wp_region_textZ [13] (fun w' => Below w1.heap.size w1 w') (fun _ => True) (by kernel_rfl) (by kernel_rfl) (by kernel_rfl) (by kernel_rfl) (Below.refl _ _).drew trivial ?_
      repeat (first
        | (refine TxtZL.skip (by rfl) ?_; simp only [Act.put, List.setIfInBounds_toArray, List.set_cons_zero, List.set_cons_succ])
        | (refine TxtZL.take (by rfl) (by rfl) ?_; apply Exists.intro; refine ⟨fun w1 hS1 => ?_, ?_⟩; (focus ((have g1 := Fnd.at_ (Blk.below hF2 hS1 (Blk.lt hF2)) hk40; have g2 := (hS1.cell (p := ⟨b2, o2, none⟩) (lt_of_cell hc2)).trans hc2); go_simp; with_reducible rfl)); simp only [Act.put, List.setIfInBounds_toArray, List.set_cons_zero, List.set_cons_succ])
        | (refine TxtZL.takeE' (by rfl) (by rfl) ?_; apply Exists.intro; refine ⟨fun w1 hS1 => ?_, ?_⟩; (focus ((have g1 := Fnd.at_ (Blk.below hF2 hS1 (Blk.lt hF2)) hk40; have g2 := (hS1.cell (p := ⟨b2, o2, none⟩) (lt_of_cell hc2)).trans hc2); go_simp; with_reducible rfl)); simp only [Act.put, List.setIfInBounds_toArray, List.set_cons_zero, List.set_cons_succ]))
      refine TxtZL.last (fun w' => Fnd w' f n (.slice (some ⟨b, o, none⟩) n cA) (limD D a i) v full ∧ w.grownBy w' (some f)) (by rfl) (by rfl) (fun w2 hS1 _ => ?_) ?_
      · have hF3 : Fnd w2 f n (.slice (some ⟨b, o, none⟩) n cA) (lim1 D a i) v full := Blk.below hF2 hS1 (Blk.lt hF2)
        have hfz := hF3.frozen (2 + kk)
        have hcf := hF3.at_ hk40
        exact Eff.skip (w' := w2.setCell ⟨f, 2 + kk, none⟩ (.int .i64 ((lim1 D a i kk &&& 2 : Nat) : Int))) (by go_simp) ⟨by rw [hlast.out]; exact hF3.put hk40 _, grownBy_trans hg2 (grownBy_trans (grownBy_of_below hS1 _) (grownBy_setCell _ f (2 + kk) _))⟩
      rintro v0 w2 ⟨hE1, hE2⟩
      go_wp2_with fail
      refine bodyPost_ret (results_none rfl _ _ _) rfl ?_
      exact ⟨rfl, hE1, hE2⟩
    · have hd : (((canL (lim1 D a i) a 2).length : Int) == 1) = false := by simp; omega
      have hlast := Lib.hid (limD_not (D := D) (a := a) (i := i) (m := 2) hal hl)
      clear hl hr1
      go_wp2_with fail
      refine bodyPost_ret (results_none rfl _ _ _) rfl ?_
      exact ⟨rfl, by rw [hlast.out]; exact hF2, hg2⟩
  by_cases x8 : D i = 8
  · have Hx := Lib.hid x8
    rw [x8] at hdi
    clear x8
    have hal : aloneN (D i) = 8 := by rw [Hx.out]; rfl
    have hl1 : Hid (lim1 D a i = maskD D a 12) := Lib.hid (lim1_8 Hx.out)
    go_wp2_with fail
    go_loopw [49] (fun j wr => ∃ k : Nat, k ≤ a.length ∧ j = .int .i64 k ∧ Fnd wr f n (.slice (some ⟨b, o, none⟩) n cA) (maskD D (a.take k) 12) v full ∧ w.grownBy wr (some f)) (fun j _ => a.length - (intOf j).toNat)
    case atStart => exact ⟨0, Nat.zero_le _, rfl, by rw [List.take_zero, maskD_nil]; exact HF.out, grownBy_refl _ _⟩
    case round =>
      obtain ⟨k, hk, rfl, hF1, hg⟩ := hrel
      by_cases hlt : k < a.length
      case pos =>
        obtain ⟨b1, o1, rfl, _, hc1⟩ := (Hrf.out.grown hg) k hlt
        obtain ⟨q0, q1⟩ := Hrng.out _ (List.getElem_mem hlt)
        obtain ⟨kk, hkk⟩ := Int.eq_ofNat_of_zero_le q0
        rw [hkk] at hc1 q1 q0
        have hk40 : kk < 40 := by omega
        have hcd := hF1.at_ hk40
        have hfz := hF1.frozen (2 + kk)
        have Hstep := Lib.hid (maskD_step (D := D) (m := 12) hlt hkk)
        have hand : bits .and .i64 (maskD D (a.take k) 12 kk : Int) 12 = ((maskD D (a.take k) 12 kk &&& 12 : Nat) : Int) := i64_and_small (Nat.le_trans ((mask_sub D (a.take k) 12).le kk) (HD.out kk)) (show 12 ≤ 14 by omega)
        clear hkk hcd hfz
        go_wp2_with fail
        refine wp_region_textZ [10] (fun w' => Below wr.heap.size wr w') (fun _ => True) (by kernel_rfl) (by kernel_rfl) (by kernel_rfl) (by kernel_rfl) (Below.refl _ _).drew trivial ?_
        repeat (first
          | (refine TxtZL.skip (by rfl) ?_; simp only [Act.put, List.setIfInBounds_toArray, List.set_cons_zero, List.set_cons_succ])
          | (refine TxtZL.take (by rfl) (by rfl) ?_; apply Exists.intro; refine ⟨fun w1 hS1 => ?_, ?_⟩; (focus ((have g1 := Fnd.at_ (Blk.below hF1 hS1 (Blk.lt hF1)) hk40); go_simp; with_reducible rfl)); simp only [Act.put, List.setIfInBounds_toArray, List.set_cons_zero, List.set_cons_succ])
          | (refine TxtZL.takeE' (by rfl) (by rfl) ?_; apply Exists.intro; refine ⟨fun w1 hS1 => ?_, ?_⟩; (focus ((have g1 := Fnd.at_ (Blk.below hF1 hS1 (Blk.lt hF1)) hk40); go_simp; with_reducible rfl)); simp only [Act.put, List.setIfInBounds_toArray, List.set_cons_zero, List.set_cons_succ]))
        refine TxtZL.last (fun w' => Fnd w' f n (.slice (some ⟨b, o, none⟩) n cA) (maskD D (a.take (k + 1)) 12) v full ∧ w.grownBy w' (some f)) (by rfl) (by rfl) (fun w1 hS1 _ => ?_) ?_
        · have hF3 : Fnd w1 f n (.slice (some ⟨b, o, none⟩) n cA) (maskD D (a.take k) 12) v full := Blk.below hF1 hS1 (Blk.lt hF1)
          have hfz := hF3.frozen (2 + kk)
          have hcf := hF3.at_ hk40
          exact Eff.skip (w' := w1.setCell ⟨f, 2 + kk, none⟩ (.int .i64 ((maskD D (a.take k) 12 kk &&& 12 : Nat) : Int))) (by go_simp) ⟨by rw [Hstep.out]; exact hF3.put hk40 _, grownBy_trans hg (grownBy_trans (grownBy_of_below hS1 _) (grownBy_setCell _ f (2 + kk) _))⟩
        rintro v0 w1 ⟨hE1, hE2⟩
        go_wp2_with fail
        go_roundw
        case rel => exact ⟨k + 1, by omega, by go_num, hE1, hE2⟩
        case measure => simp [intOf]; omega
      case neg =>
      rw [List.take_of_length_le (by omega), ← hl1.out] at hF1
      go_wp2_with fail
      refine (HC.out 8 wr (by omega) hF1 hg).mono ?_
      rintro e w1 ⟨A1, c1, rfl, _, hr1, _, hb⟩
      have hF2 : Fnd w1 f n (.slice (some ⟨b, o, none⟩) n cA) (lim1 D a i) v full := Blk.below hF1 hb (Blk.lt hF1)
      have hg2 := grownBy_trans hg (grownBy_of_below hb (some f))
      by_cases hl : (canL (lim1 D a i) a 8).length = 1
      · have hd : (((canL (lim1 D a i) a 8).length : Int) == 1) = true := by simp [hl]
        have hpos : 0 < (canL (lim1 D a i) a 8).length := by omega
        obtain ⟨b2, o2, rfl, hc2⟩ := hr1.at_ hpos
        obtain ⟨kk, hkk, hk40⟩ := Hin.out 8 _ (List.getElem_mem hpos)
        rw [hkk] at hc2
        have hlast := Lib.hid (limD_one (D := D) (a := a) (i := i) (m := 8) hal hl (by rw [List.getD_eq_getElem?_getD, List.getElem?_eq_getElem hpos, Option.getD_some]; exact hkk))
        have hcd := hF2.at_ hk40
        have hfz := hF2.frozen (2 + kk)
        have hand : bits .and .i64 (lim1 D a i kk : Int) 8 = ((lim1 D a i kk &&& 8 : Nat) : Int) := i64_and_small (HE.out kk) (show 8 ≤ 14 by omega)
        have hk0 : (0 : Int) ≤ (kk : Int) := by omega
        have hk1 : (kk : Int) < 40 := by omega
        have Hl := Lib.hid hl
        clear hl hkk hr1 hcd hfz hd
        rw [Nat.add_zero] at hc2
        have hd : (((canL (lim1 D a i) a 8).length : Int) == 1) = true := by simp [Hl.out]
        go_wp2_with fail
        refine wp_region_textZ [13] (fun w' => Below w1.heap.size w1 w') (fun _ => True) (by kernel_rfl) (by kernel_rfl) (by kernel_rfl) (by kernel_rfl) (Below.refl _ _).drew trivial ?_
        repeat (first
          | (refine TxtZL.skip (by rfl) ?_; simp only [Act.put, List.setIfInBounds_toArray, List.set_cons_zero, List.set_cons_succ])
          | (refine TxtZL.take (by rfl) (by rfl) ?_; apply Exists.intro; refine ⟨fun w1 hS1 => ?_, ?_⟩; (focus ((have g1 := Fnd.at_ (Blk.below hF2 hS1 (Blk.lt hF2)) hk40; have g2 := (hS1.cell (p := ⟨b2, o2, none⟩) (lt_of_cell hc2)).trans hc2); go_simp; with_reducible rfl)); simp only [Act.put, List.setIfInBounds_toArray, List.set_cons_zero, List.set_cons_succ])
          | (refine TxtZL.takeE' (by rfl) (by rfl) ?_; apply Exists.intro; refine ⟨fun w1 hS1 => ?_, ?_⟩; (focus ((have g1 := Fnd.at_ (Blk.below hF2 hS1 (Blk.lt hF2)) hk40; have g2 := (hS1.cell (p := ⟨b2, o2, none⟩) (lt_of_cell hc2)).trans hc2); go_simp; with_reducible rfl)); simp only [Act.put, List.setIfInBounds_toArray, List.set_cons_zero, List.set_cons_succ]))
        refine TxtZL.last (fun w' => Fnd w' f n (.slice (some ⟨b, o, none⟩) n cA) (limD D a i) v full ∧ w.grownBy w' (some f)) (by rfl) (by rfl) (fun w2 hS1 _ => ?_) ?_
        · have hF3 : Fnd w2 f n (.slice (some ⟨b, o, none⟩) n cA) (lim1 D a i) v full := Blk.below hF2 hS1 (Blk.lt hF2)
          have hfz := hF3.frozen (2 + kk)
          have hcf := hF3.at_ hk40
          exact Eff.skip (w' := w2.setCell ⟨f, 2 + kk, none⟩ (.int .i64 ((lim1 D a i kk &&& 8 : Nat) : Int))) (by go_simp) ⟨by rw [hlast.out]; exact hF3.put hk40 _, grownBy_trans hg2 (grownBy_trans (grownBy_of_below hS1 _) (grownBy_setCell _ f (2 + kk) _))⟩
        rintro v0 w2 ⟨hE1, hE2⟩
        go_wp2_with fail
        refine bodyPost_ret (results_none rfl _ _ _) rfl ?_
        exact ⟨rfl, hE1, hE2⟩
      · have hd : (((canL (lim1 D a i) a 8).length : Int) == 1) = false := by simp; omega
        have hlast := Lib.hid (limD_not (D := D) (a := a) (i := i) (m := 8) hal hl)
        clear hl hr1
        go_wp2_with fail
        refine bodyPost_ret (results_none rfl _ _ _) rfl ?_
        exact ⟨rfl, by rw [hlast.out]; exact hF2, hg2⟩
  have d2 : ((D i : Int) == 2) = false := by simp; omega
  have d4 : ((D i : Int) == 4) = false := by simp; omega
  have d8 : ((D i : Int) == 8) = false := by simp; omega
  have hal : aloneN (D i) = 0 := by unfold aloneN; rw [if_neg x4, if_neg x8]
  have hl1 : Hid (lim1 D a i = D) := Lib.hid (lim1_o x2 x8)
  clear x2 x4 x8
  have hg : w.grownBy w (some f) := grownBy_refl _ _
  have hF1 : Fnd w f n (.slice (some ⟨b, o, none⟩) n cA) (lim1 D a i) v full := by rw [hl1.out]; exact HF.out
  go_wp2_with fail
  refine (HC.out 0 w (by omega) hF1 hg).mono ?_
  rintro e w1 ⟨A1, c1, rfl, _, hr1, _, hb⟩
  have hF2 : Fnd w1 f n (.slice (some ⟨b, o, none⟩) n cA) (lim1 D a i) v full := Blk.below hF1 hb (Blk.lt hF1)
  have hg2 := grownBy_trans hg (grownBy_of_below hb (some f))
  by_cases hl : (canL (lim1 D a i) a 0).length = 1
  · have hd : (((canL (lim1 D a i) a 0).length : Int) == 1) = true := by simp [hl]
    have hpos : 0 < (canL (lim1 D a i) a 0).length := by omega
    obtain ⟨b2, o2, rfl, hc2⟩ := hr1.at_ hpos
    obtain ⟨kk, hkk, hk40⟩ := Hin.out 0 _ (List.getElem_mem hpos)
    rw [hkk] at hc2
    have hlast := Lib.hid (limD_one (D := D) (a := a) (i := i) (m := 0) hal hl (by rw [List.getD_eq_getElem?_getD, List.getElem?_eq_getElem hpos, Option.getD_some]; exact hkk))
    have hcd := hF2.at_ hk40
    have hfz := hF2.frozen (2 + kk)
    have hand : bits .and .i64 (lim1 D a i kk : Int) 0 = ((lim1 D a i kk &&& 0 : Nat) : Int) := i64_and_small (HE.out kk) (show 0 ≤ 14 by omega)
    have hk0 : (0 : Int) ≤ (kk : Int) := by omega
    have hk1 : (kk : Int) < 40 := by omega
    have Hl := Lib.hid hl
    clear hl hkk hr1 hcd hfz hd
    rw [Nat.add_zero] at hc2
    have hd : (((canL (lim1 D a i) a 0).length : Int) == 1) = true := by simp [Hl.out]
    go_wp2_with fail
    refine wp_region_textZ [13] (fun w' => Below w1.heap.size w1 w') (fun _ => True) (by kernel_rfl) (by kernel_rfl) (by kernel_rfl) (by kernel_rfl) (Below.refl _ _).drew trivial ?_
    repeat (first
      | (refine TxtZL.skip (by rfl) ?_; simp only [Act.put, List.setIfInBounds_toArray, List.set_cons_zero, List.set_cons_succ])
      | (refine TxtZL.take (by rfl) (by rfl) ?_; apply Exists.intro; refine ⟨fun w1 hS1 => ?_, ?_⟩; (focus ((have g1 := Fnd.at_ (Blk.below hF2 hS1 (Blk.lt hF2)) hk40; have g2 := (hS1.cell (p := ⟨b2, o2, none⟩) (lt_of_cell hc2)).trans hc2); go_simp; with_reducible rfl)); simp only [Act.put, List.setIfInBounds_toArray, List.set_cons_zero, List.set_cons_succ])
      | (refine TxtZL.takeE' (by rfl) (by rfl) ?_; apply Exists.intro; refine ⟨fun w1 hS1 => ?_, ?_⟩; (focus ((have g1 := Fnd.at_ (Blk.below hF2 hS1 (Blk.lt hF2)) hk40; have g2 := (hS1.cell (p := ⟨b2, o2, none⟩) (lt_of_cell hc2)).trans hc2); go_simp; with_reducible rfl)); simp only [Act.put, List.setIfInBounds_toArray, List.set_cons_zero, List.set_cons_succ]))
    refine TxtZL.last (fun w' => Fnd w' f n (.slice (some ⟨b, o, none⟩) n cA) (limD D a i) v full ∧ w.grownBy w' (some f)) (by rfl) (by rfl) (fun w2 hS1 _ => ?_) ?_
    · have hF3 : Fnd w2 f n (.slice (some ⟨b, o, none⟩) n cA) (lim1 D a i) v full := Blk.below hF2 hS1 (Blk.lt hF2)
      have hfz := hF3.frozen (2 + kk)
      have hcf := hF3.at_ hk40
      exact Eff.skip (w' := w2.setCell ⟨f, 2 + kk, none⟩ (.int .i64 ((lim1 D a i kk &&& 0 : Nat) : Int))) (by go_simp) ⟨by rw [hlast.out]; exact hF3.put hk40 _, grownBy_trans hg2 (grownBy_trans (grownBy_of_below hS1 _) (grownBy_setCell _ f (2 + kk) _))⟩
    rintro v0 w2 ⟨hE1, hE2⟩
    go_wp2_with fail
    refine bodyPost_ret (results_none rfl _ _ _) rfl ?_
    exact ⟨rfl, hE1, hE2⟩
  · have hd : (((canL (lim1 D a i) a 0).length : Int) == 1) = false := by simp; omega
    have hlast := Lib.hid (limD_not (D := D) (a := a) (i := i) (m := 0) hal hl)
    clear hl hr1
    go_wp2_with fail
    refine bodyPost_ret (results_none rfl _ _ _) rfl ?_
    exact ⟨rfl, by rw [hlast.out]; exact hF2, hg2⟩
end Go.Proofs.YtcpombepajapjaaGreatDoor
