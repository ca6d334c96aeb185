import Derived.Test.YtncimnfhfomddaaDoorPl11
import Derived.Test.YtncimnfhfomddaaDoorRev
import Derived.Test.YtncimnfhfomddaaDoorGnd
/- labelling: Valid, legal, Illegal, IsComplete. -/
namespace Go.Proofs.YtncimnfhfomddaaDoor
open Go.ChangeShapes Go.WideShapes Go.ChangeAt Go.RowKit

/-- the first place with a property, or -1 -/
def idxP (p : Int → Bool) : Nat → List Int → Int
  | _, [] => -1
  | k, x :: l => if p x then k else idxP p (k + 1) l
theorem idxP_hit {p : Int → Bool} {l : List Int} {k : Nat} (h : k < l.length) (hp : p l[k] = true) : idxP p k (l.drop k) = k := by rw [List.drop_eq_getElem_cons h, idxP, if_pos hp]
theorem idxP_miss {p : Int → Bool} {l : List Int} {k : Nat} (h : k < l.length) (hp : p l[k] = false) : idxP p k (l.drop k) = idxP p (k + 1) (l.drop (k + 1)) := by rw [List.drop_eq_getElem_cons h, idxP, if_neg (by rw [hp]; simp)]
theorem idxP_end {p : Int → Bool} {l : List Int} {k : Nat} (h : ¬ k < l.length) : idxP p k (l.drop k) = -1 := by rw [List.drop_of_length_le (by omega)]; rfl
theorem idxP_any (p : Int → Bool) : ∀ (l : List Int) (k : Nat), decide (0 ≤ idxP p k l) = l.any p
  | [], k => by simp [idxP]
  | x :: l, k => by
    rw [idxP, List.any_cons]
    by_cases h : p x = true
    · rw [if_pos h, h]; simp
    · rw [if_neg h, idxP_any p l (k + 1)]
      simp at h; simp [h]

theorem any_bad (l : List Int) : (l.any fun v => !okL v) = !(l.all okL) := by
  induction l with
  | nil => rfl
  | cons x l ih => rw [List.any_cons, List.all_cons, ih, Bool.not_and]

theorem cntL_take {l : List (Int × Int)} {x : List Int} {i : Nat} {v : Int} {s : Nat} (h : s < (attackersL l i).length) {a : Nat} (ha : (attackersL l i)[s] = (a : Int)) :
    (((attackersL l i).take (s + 1)).filter fun b => x.getD b.toNat 0 == v).length = (((attackersL l i).take s).filter fun b => x.getD b.toNat 0 == v).length + if x.getD a 0 = v then 1 else 0 := by
  rw [List.take_succ_eq_append_getElem h, List.filter_append, List.length_append, ha]
  congr 1
  by_cases e : x.getD a 0 = v
  · have q : (x.getD (a : Int).toNat 0 == v) = true := by rw [Int.toNat_natCast]; exact beq_iff_eq.2 e
    rw [if_pos e, List.filter_cons, if_pos q]; rfl
  · have q : (x.getD (a : Int).toNat 0 == v) = false := by rw [Int.toNat_natCast]; exact beq_eq_false_iff_ne.2 e
    rw [if_neg e, List.filter_cons, if_neg (by rw [q]; simp)]; rfl

end Go.Proofs.YtncimnfhfomddaaDoor

/- ref11: Valid, legal; Illegal and IsComplete of labelling and of ref11; ref11's With. -/
namespace Go.Proofs.YtncimnfhfomddaaDoor
open Go.ChangeShapes Go.WideShapes Go.ChangeAt Go.RowKit

theorem lab_bad {N : Int} {x : List Int} {k : Nat} (h : k < x.length) (hb : okL x[k] = false) : labB N x = false := by
  cases hl : labB N x
  · rfl
  · unfold labB at hl
    rw [Bool.and_eq_true, List.all_eq_true] at hl
    rw [hl.1 _ (List.getElem_mem h)] at hb; cases hb
theorem all_take {x : List Int} {k : Nat} (h : k < x.length) (ha : (x.take k).all okL = true) (hb : okL x[k] = true) : (x.take (k + 1)).all okL = true := by
  rw [List.take_succ_eq_append_getElem h, List.all_append, ha]; simp [hb]

/-- how many of the first attackers have a label -/
def cT (l : List (Int × Int)) (x : List Int) (i s : Nat) (v : Int) : Nat := (((attackersL l i).take s).filter fun b => x.getD b.toNat 0 == v).length
theorem cT_le (l : List (Int × Int)) (x : List Int) (i s : Nat) (v : Int) : cT l x i s v ≤ l.length := by
  have h1 := List.length_filter_le (fun b => x.getD b.toNat 0 == v) ((attackersL l i).take s); have h2 := List.length_take_le' s (attackersL l i); have h3 := attackersL_len l i
  unfold cT; omega
theorem cT_end {l : List (Int × Int)} {x : List Int} {i s : Nat} (h : ¬ s < (attackersL l i).length) (v : Int) : cT l x i s v = cntL l x i v := by unfold cT cntL; rw [List.take_of_length_le (by omega)]

end Go.Proofs.YtncimnfhfomddaaDoor

/- Illegal and IsComplete of labelling and of ref11; ref11's With. -/
namespace Go.Proofs.YtncimnfhfomddaaDoor
open Go.ChangeShapes Go.WideShapes Go.ChangeAt Go.RowKit

end Go.Proofs.YtncimnfhfomddaaDoor

/- slices.Index, slices.Contains; labelling.FromSet, ref11.FromSet. -/
namespace Go.Proofs.YtncimnfhfomddaaDoor
open Go.ChangeShapes Go.WideShapes Go.ChangeAt Go.RowKit

set_option maxHeartbeats 400000 in
theorem indexI_any (A : Option Addr) (l : List Int) (c : Nat) (v : Int) (w : World) (hr : RI w A l) (hl : l.length ≤ 100000) :
    Calls Tryd.prog 142 #[.slice A l.length c, .int .i64 v] w (Ret (.int .i64 (idxP (fun y => v == y) 0 l)) w) := by
  go_enter Tryd.func142, Tryd.ntmps142
  go_wp2_with fail
  go_loop [8] (fun i => ∃ k : Nat, k ≤ l.length ∧ i = .int .i64 k ∧ idxP (fun y => v == y) k (l.drop k) = idxP (fun y => v == y) 0 l) (fun i => l.length - (intOf i).toNat)
  case atStart => exact ⟨0, Nat.zero_le _, rfl, rfl⟩
  case round =>
    obtain ⟨k, hk, rfl, hi⟩ := hrel
    have Hi := Lib.hid hi; clear hi
    by_cases hlt : k < l.length
    case neg =>
      go_wp2_with fail
      go_ret
      exact ⟨ri (by rw [← Hi.out, idxP_end hlt]), rfl⟩
    case pos =>
    obtain ⟨b, o, rfl, hc⟩ := hr.at_ hlt
    cases hb : (v == l[k])
    · have Hb := Lib.hid hb
      go_wp2_with fail
      go_round
      case rel => exact ⟨k + 1, by omega, by go_num, by rw [← idxP_miss hlt Hb.out]; exact Hi.out⟩
      case measure => simp [intOf]; omega
    · have Hb := Lib.hid hb
      go_wp2_with fail
      go_ret
      exact ⟨ri (by rw [← Hi.out, idxP_hit hlt Hb.out]), rfl⟩
set_option maxHeartbeats 400000 in
theorem containsI_any (A : Option Addr) (l : List Int) (c : Nat) (v : Int) (w : World) (hr : RI w A l) (hl : l.length ≤ 100000) :
    Calls Tryd.prog 114 #[.slice A l.length c, .int .i64 v] w (Ret (.bool (inB l v)) w) := by
  have h : decide (0 ≤ idxP (fun y => v == y) 0 l) = inB l v := by
    rw [idxP_any]
    apply Bool.eq_iff_iff.2
    rw [List.any_eq_true, inB_iff]
    constructor
    · rintro ⟨y, hy, e⟩
      rw [beq_iff_eq] at e; subst e; exact hy
    · intro h; exact ⟨v, h, by simp⟩
  have H := Lib.hid h; clear h
  go_enter Tryd.func114, Tryd.ntmps114
  go_wp2_with fail
  refine (indexI_any A l c v w hr hl).mono ?_
  rintro e w1 ⟨rfl, rfl⟩
  go_wp2_with fail
  go_ret
  exact ⟨rb H.out, rfl⟩

theorem any_take {α : Type} {l : List α} {P : α → Bool} {k : Nat} (h : k < l.length) : (l.take (k + 1)).any P = ((l.take k).any P || P l[k]) := by
  rw [List.take_succ_eq_append_getElem h, List.any_append, List.any_cons, List.any_nil, Bool.or_false]
/-- after k pairs -/
def ffA (l : List (Int × Int)) (s : List Int) (k j : Nat) : Int := if (l.take k).any (fun p => inB s p.1 && p.2 == (j : Int)) then 2 else 3
theorem ffA_hit {l : List (Int × Int)} {s : List Int} {k : Nat} (h : k < l.length) (hs : inB s l[k].1 = true) {a : Nat} (ha : l[k].2 = (a : Int)) (j : Nat) : ffA l s (k + 1) j = upd (ffA l s k) a 2 j := by
  unfold ffA
  rw [any_take h, hs, ha]
  by_cases e : j = a
  · subst e; rw [upd_same, if_pos (by rw [beq_self_eq_true, Bool.and_true, Bool.or_true])]
  · have : ((a : Int) == (j : Int)) = false := beq_eq_false_iff_ne.2 (by omega)
    rw [upd_ne e, this, Bool.and_false, Bool.or_false]
theorem ffA_miss {l : List (Int × Int)} {s : List Int} {k : Nat} (h : k < l.length) (hs : inB s l[k].1 = false) (j : Nat) : ffA l s (k + 1) j = ffA l s k j := by
  unfold ffA
  rw [any_take h, hs, Bool.false_and, Bool.or_false]
/-- after k members -/
def ffB (l : List (Int × Int)) (s : List Int) (k j : Nat) : Int := if (s.take k).any (fun y => y == (j : Int)) then 1 else ffA l s l.length j
theorem ffB_hit {l : List (Int × Int)} {s : List Int} {k : Nat} (h : k < s.length) {a : Nat} (ha : s[k] = (a : Int)) (j : Nat) : ffB l s (k + 1) j = upd (ffB l s k) a 1 j := by
  unfold ffB
  rw [any_take h, ha]
  by_cases e : j = a
  · subst e; rw [upd_same, if_pos (by rw [beq_self_eq_true, Bool.or_true])]
  · have : ((a : Int) == (j : Int)) = false := beq_eq_false_iff_ne.2 (by omega)
    rw [upd_ne e, this, Bool.or_false]
theorem ffB_miss {l : List (Int × Int)} {s : List Int} {k j : Nat} (h : k < s.length) (ha : s[k] ≠ (j : Int)) : ffB l s (k + 1) j = ffB l s k j := by
  unfold ffB
  rw [any_take h, beq_eq_false_iff_ne.2 ha, Bool.or_false]
theorem ffB_end (l : List (Int × Int)) (s : List Int) (j : Nat) : ffB l s s.length j = fromF l s j := by
  unfold ffB fromF ffA
  rw [List.take_length, List.take_length]
  have e1 : (s.any fun y => y == (j : Int)) = inB s j := by
    apply Bool.eq_iff_iff.2
    rw [List.any_eq_true, inB_iff]
    constructor
    · rintro ⟨y, hy, e⟩
      rw [beq_iff_eq] at e; subst e; exact hy
    · intro h; exact ⟨_, h, by simp⟩
  have e2 : (l.any fun p => inB s p.1 && p.2 == (j : Int)) = (attackersL l j).any fun a => inB s a := by
    apply Bool.eq_iff_iff.2
    rw [any_att, List.any_eq_true]
    constructor
    · rintro ⟨⟨a, b⟩, hp, e⟩
      rw [Bool.and_eq_true, beq_iff_eq, inB_iff] at e
      obtain ⟨h1, h2⟩ := e
      simp only at h1 h2
      subst h2; exact ⟨a, hp, h1⟩
    · rintro ⟨a, h1, h2⟩
      exact ⟨(a, (j : Int)), h1, by rw [Bool.and_eq_true, beq_iff_eq, inB_iff]; exact ⟨h2, rfl⟩⟩
  rw [e1, e2]

end Go.Proofs.YtncimnfhfomddaaDoor

/- slices.Compare, labelling.Compare, ref11.Compare; ref11.FromSet. -/
namespace Go.Proofs.YtncimnfhfomddaaDoor
open Go.ChangeShapes Go.WideShapes Go.ChangeAt Go.RowKit

set_option maxHeartbeats 1000000 in
theorem compareS_any (A B : Option Addr) (a b : List Int) (ca cb : Nat) (w : World) (ha : RI w A a) (hb : RI w B b) (hla : a.length ≤ 100000) (_hlb : b.length ≤ 100000) :
    Calls Tryd.prog 69 #[.slice A a.length ca, .slice B b.length cb] w (Ret (.int .i64 (cmpLs a b)) w) := by
  go_enter Tryd.func69, Tryd.ntmps69
  go_wp2_with fail
  go_loop [11] (fun i => ∃ k : Nat, k ≤ a.length ∧ k ≤ b.length ∧ i = .int .i64 k ∧ cmpLs (a.drop k) (b.drop k) = cmpLs a b) (fun i => a.length - (intOf i).toNat)
  case atStart => exact ⟨0, Nat.zero_le _, Nat.zero_le _, rfl, rfl⟩
  case round =>
    obtain ⟨k, hk, hkb, rfl, hi⟩ := hrel
    have Hi := Lib.hid hi; clear hi
    by_cases hlt : k < a.length
    case neg =>
      obtain rfl : k = a.length := by omega
      by_cases h : a.length < b.length
      · have hd : (a.length : Int) < (b.length : Int) := by omega
        go_wp2_with fail
        go_ret
        exact ⟨ri (by rw [← Hi.out, cmpLs_endA hlt h]), rfl⟩
      · have hd : ¬ (a.length : Int) < (b.length : Int) := by omega
        go_wp2_with fail
        go_ret
        exact ⟨ri (by rw [← Hi.out, cmpLs_end hlt h]), rfl⟩
    case pos =>
    obtain ⟨g, o, rfl, hc⟩ := ha.at_ hlt
    by_cases hlb' : k < b.length
    case neg =>
      have hd : (b.length : Int) ≤ (k : Int) := by omega
      go_wp2_with fail
      go_ret
      exact ⟨ri (by rw [← Hi.out, cmpLs_endB hlt hlb']), rfl⟩
    case pos =>
    obtain ⟨g', o', rfl, hc'⟩ := hb.at_ hlb'
    have hd : ¬ (b.length : Int) ≤ (k : Int) := by omega
    have hs := cmpLs_drop hlt hlb'
    have Hs := Lib.hid hs; clear hs
    go_wp2_with fail
    refine (cmpc_any a[k] b[k] w).mono ?_
    rintro e w1 ⟨rfl, rfl⟩
    by_cases h1 : a[k] < b[k]
    · have hz : cmpI a[k] b[k] = -1 := by unfold cmpI; rw [if_pos h1]
      rw [hz]
      have H := Lib.hid (show cmpLs a b = -1 by rw [← Hi.out, Hs.out, if_pos h1])
      clear hz
      go_wp2_with fail
      go_ret
      exact ⟨ri H.out.symm, rfl⟩
    by_cases h2 : b[k] < a[k]
    · have hz : cmpI a[k] b[k] = 1 := by unfold cmpI; rw [if_neg h1, if_pos h2]
      rw [hz]
      have H := Lib.hid (show cmpLs a b = 1 by rw [← Hi.out, Hs.out, if_neg h1, if_pos h2])
      clear hz
      go_wp2_with fail
      go_ret
      exact ⟨ri H.out.symm, rfl⟩
    · have hz : cmpI a[k] b[k] = 0 := by unfold cmpI; rw [if_neg h1, if_neg h2]
      rw [hz]
      have H := Lib.hid (show cmpLs (a.drop (k + 1)) (b.drop (k + 1)) = cmpLs a b by rw [← Hi.out, Hs.out, if_neg h1, if_neg h2])
      clear hz
      go_wp2_with fail
      go_round
      case rel => exact ⟨k + 1, by omega, by omega, by go_num, H.out⟩
      case measure => simp [intOf]; omega

end Go.Proofs.YtncimnfhfomddaaDoor

/- ref11.FromSet. -/
namespace Go.Proofs.YtncimnfhfomddaaDoor
open Go.ChangeShapes Go.WideShapes Go.ChangeAt Go.RowKit

/-- the label after k attackers -/
def outK (l : List (Int × Int)) (s : List Int) (i k : Nat) : Int := if ((attackersL l i).take k).any (fun a => inB s a) then 2 else 3
theorem outK_hit {l : List (Int × Int)} {s : List Int} {i k : Nat} (h : k < (attackersL l i).length) (hb : inB s (attackersL l i)[k] = true) : outK l s i (k + 1) = 2 := by
  unfold outK; rw [any_take h, hb, Bool.or_true, if_pos rfl]
theorem outK_miss {l : List (Int × Int)} {s : List Int} {i k : Nat} (h : k < (attackersL l i).length) (hb : inB s (attackersL l i)[k] = false) : outK l s i (k + 1) = outK l s i k := by
  unfold outK; rw [any_take h, hb, Bool.or_false]

end Go.Proofs.YtncimnfhfomddaaDoor

/- keep's Labels. -/
namespace Go.Proofs.YtncimnfhfomddaaDoor
open Go.ChangeShapes Go.WideShapes Go.ChangeAt Go.RowKit

/-- the call returns a labelling of n nodes, in a new slice; the reader has gone on -/
def RetLb (p n : Nat) (w : World) : Ending → World → Prop := fun e w' => ∃ (x : List Int) (v : Value), e = .returned v ∧ OwnI w' w.heap.size v x ∧ labB n x = true ∧ SrcOk w' p ∧ w.grownBy w' (some p)
theorem labB_snoc {k : Nat} {x : List Int} {v : Int} (h : labB k x = true) (h1 : 1 ≤ v) (h2 : v ≤ 3) : labB ((k + 1 : Nat) : Int) (x ++ [v]) = true := by
  rw [labB_iff] at h ⊢
  obtain ⟨a, b⟩ := h
  refine ⟨by rw [List.length_append, a]; rfl, fun u hu => ?_⟩
  rcases List.mem_append.1 hu with hu | hu
  · exact b u hu
  · rw [List.mem_singleton] at hu; subst hu; exact ⟨h1, h2⟩

end Go.Proofs.YtncimnfhfomddaaDoor

/- The sanity check of layer 11. -/
namespace Go.Proofs.YtncimnfhfomddaaDoor
open Go.ChangeShapes Go.WideShapes Go.ChangeAt Go.RowKit

theorem boxed24 (w : World) (t u : TypeId) (x1 x2 x3 x4 y1 y2 : Value) : ∃ W0, (w.alloc (.cells #[y1, y2] u)).alloc (.cells #[x1, x2, x3, x4] t) = W0 ∧ Blk W0 w.heap.size u #[y1, y2] ∧ Blk W0 (w.heap.size + 1) t #[x1, x2, x3, x4] ∧ Below w.heap.size w W0 := by
  refine ⟨_, rfl, (Blk.new w u _).alloc _, ?_, ((Below.refl _ _).alloc (Nat.le_refl _) _).alloc (by simp) _⟩
  have := Blk.new (w.alloc (.cells #[y1, y2] u)) t #[x1, x2, x3, x4]
  simpa using this

theorem OwnI.cap {w : World} {b : Nat} {A : Option Addr} {c : Nat} {l : List Int} (h : OwnI w b (.slice A l.length c) l) : l.length ≤ c := by
  obtain ⟨h1, h2⟩ := h
  rcases h2 with ⟨e, hn⟩ | ⟨g', cap, cur, e, hg, hh, hn, hcap, hs, ht⟩
  · omega
  · injection e with e1 e2 e3
    subst e3
    omega
theorem ri_take {w : World} {A : Option Addr} {l : List Int} (k : Nat) (h : RI w A l) : RI w A (l.take k) := fun j hj => by
  have hj' : j < l.length := by rw [List.length_take] at hj; omega
  obtain ⟨b, o, hA, hc⟩ := h j hj'
  refine ⟨b, o, hA, ?_⟩
  have e : (l.take k).getD j 0 = l.getD j 0 := by
    have hjk : j < k := by rw [List.length_take] at hj; omega
    simp [List.getD, hjk]
  rw [hc]
  first | rw [e] | simp [e]
theorem from_chain : fromL 3 chainG [2] = [3, 3, 1] := by decide
theorem com_chain : comB 3 chainG [1, 2, 1] = true := by decide
theorem ill_chain : illL 3 chainG [3, 3, 1] = [0, 2] := by decide

end Go.Proofs.YtncimnfhfomddaaDoor

/- append to a slice whose capacity is its length. -/
namespace Go.Proofs.YtncimnfhfomddaaDoor
open Go.ChangeShapes Go.WideShapes Go.ChangeAt Go.RowKit

set_option maxRecDepth 100000 in
/-- 'append(l[:len(l):len(l)], y)' -/
theorem wpList_appCap {ops : Array Oper} {rest : List Oper} {o : Oper} {a : Act} {Q : Exit → Act → World → Prop} (hgd : o.guard = none) (s x : Operand)
    (ho : o.op = .call { callee := .builtin .append, args := #[s, x], argTypes := #[25, 25] })
    (X : World) (A : Option Addr) (l : List Int) (y : Int) (hr : RI X A l) (hA : A = none → l = []) {n : Nat} (hn : n = l.length) (hs : a.eval s = .slice A n n) {gx : Nat} (hx : a.eval x = .slice (some ⟨gx, 0, none⟩) 1 1) (hgx : gx = X.heap.size)
    (hlen : l.length ≤ 1000000)
    (h : ∀ v' w', OwnI w' X.heap.size v' (l ++ [y]) → Below X.heap.size X w' → wpList Tryd.prog ops Q rest (a.put o.dst v') w') :
    wpList Tryd.prog ops Q (o :: rest) a (X.alloc (.cells #[.int .i64 y] 3)) := by
  subst hgx hn
  obtain ⟨i0, hi, hz0, hz1, hz2⟩ := info_parts info_int
  refine wpList_append_grows (X.alloc (.cells #[.int .i64 y] 3)) hgd s x 25 ho 3 i0 (.int .i64 0) 1 8 Tryd.underlying25 hi hz0 hz1 hz2 rfl (by decide) A l.length l.length (l.map (Value.int .i64)) hs (fun e => by rw [hA e]; exact ⟨rfl, rfl⟩) (by simp) (fun b hb j u hj => ?_)
    ⟨X.heap.size, 0, none⟩ 1 1 [.int .i64 y] hx rfl (new_cell _ _ _) (by intro u hu; simp at hu; subst hu; rfl) (by omega) (by unfold maxLen; omega) (by omega) ?_
  · have hj' : j < l.length := by
      have := (List.getElem?_eq_some_iff.1 hj).1
      simpa using this
    obtain ⟨b', o', hA', hc⟩ := (hr.below (newB X (.cells #[.int .i64 y] 3))) j hj'
    rw [hb] at hA'
    injection hA' with hA'
    subst hA'
    have e : u = .int .i64 (l.getD j 0) := by
      rw [List.getElem?_map, List.getElem?_eq_getElem hj'] at hj
      simp at hj
      rw [← hj]; simp [List.getD, hj']
    rw [e, Addr.add_lit]; exact hc
  · intro v' w1 hown' hg
    have hsz : X.heap.size + 1 = (X.alloc (.cells #[.int .i64 y] 3)).heap.size := by simp
    have ho' : OwnI w1 (X.alloc (.cells #[.int .i64 y] 3)).heap.size v' (l ++ [y]) := by unfold OwnI; rw [List.length_append, List.map_append]; exact hown'
    exact h v' w1 (ho'.mono (by omega)) (((Below.refl X.heap.size X).alloc (Nat.le_refl _) _).grown hg (by simp) (fun k hk => by cases hk))
end Go.Proofs.YtncimnfhfomddaaDoor
