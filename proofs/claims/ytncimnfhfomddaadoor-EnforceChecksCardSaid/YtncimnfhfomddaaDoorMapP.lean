/- Maps from pairs to truth values, made by the call. -/
import Derived.Test.YtncimnfhfomddaaDoorGr
import Derived.Maps.OwnOps
import Derived.Maps.RangeWalk
import Derived.DeepKeys4
import Derived.Test.YtncimnfhfomddaaDoorTxtX
namespace Go.Proofs.YtncimnfhfomddaaDoor
open Go.ChangeShapes Go.WideShapes Go.ChangeAt Go.RowKit
open Go.Maps (Keyed)

theorem laidOutP : laidOutB Tryd.prog = true := by kernel_rfl
theorem rowPair : (42 : TypeId) < Tryd.prog.types.size := of_decide_eq_true (by kernel_rfl)
theorem undPair : Tryd.prog.underlying 42 = some (.struct (Tryd.prog.fieldsOf 42)) := by kernel_rfl
theorem widePair : (match Tryd.prog.underlying 42 with | some (.array _ _) | some (.struct _) => true | _ => false) = true := by rw [undPair]
set_option maxRecDepth 100000 in
theorem keyedPair : Keyed Tryd.prog 42 := Keyed.of_law (deep_law_laid laidOutP (m := 2) (by omega) rowPair (by kernel_rfl) widePair)
theorem fieldsPair : (Tryd.prog.fieldsOf 42).toList.map (fun f => (f.type, f.offset)) = [(3, 0), (3, 1)] := by kernel_rfl
theorem namesPair : (Tryd.prog.fieldsOf 42).all (fun f => f.name != "_") = true := by kernel_rfl
theorem cellsPair : Tryd.prog.cellsOf 42 = 2 := by kernel_rfl
theorem cellsInt : Tryd.prog.cellsOf 3 = 1 := by kernel_rfl
def I64 (p : Int × Int) : Prop := (-9223372036854775808 ≤ p.1 ∧ p.1 ≤ 9223372036854775807) ∧ -9223372036854775808 ≤ p.2 ∧ p.2 ≤ 9223372036854775807
def vP (p : Int × Int) : Value := .agg #[.int .i64 p.1, .int .i64 p.2]
theorem lits_int {d : Nat} {x : Int} (h : -9223372036854775808 ≤ x ∧ x ≤ 9223372036854775807) : Tryd.prog.keyLits (d + 1) 3 [.int .i64 x] = some [.int .i64 x] := by
  unfold Program.keyLits
  rw [Tryd.underlying3]
  have hw : (Lit.int .i64 x).wf = true := WalkArith.wf_i64 h
  simp [hw]
theorem lits_pair {d : Nat} {p : Int × Int} (h : I64 p) : Tryd.prog.keyLits (d + 2) 42 [.int .i64 p.1, .int .i64 p.2] = some [.int .i64 p.1, .int .i64 p.2] := by
  have e1 := lits_int (d := d) h.1
  have e2 := lits_int (d := d) h.2
  unfold Program.keyLits
  rw [undPair]
  have hf := fieldsPair
  have hn := namesPair
  generalize Tryd.prog.fieldsOf 42 = fs at *
  obtain ⟨fl⟩ := fs
  have hl2 : fl.length = 2 := by simpa using congrArg List.length hf
  obtain ⟨f1, f2, rfl⟩ : ∃ f1 f2, fl = [f1, f2] := by
    cases fl with
    | nil => cases hl2
    | cons f1 r => cases r with
      | nil => cases hl2
      | cons f2 r => cases r with
        | nil => exact ⟨f1, f2, rfl⟩
        | cons f3 r => simp at hl2
  simp only [List.map_cons, List.map_nil, List.cons.injEq, Prod.mk.injEq, and_true] at hf
  obtain ⟨⟨h1, h2⟩, h3, h4⟩ := hf
  simp only [hn, cellsPair, List.length_cons, List.length_nil, and_self, if_true]
  show (List.mapM (fun f => Tryd.prog.keyLits (d + 1) f.type (List.take (Tryd.prog.cellsOf f.type) (List.drop f.offset [.int .i64 p.1, .int .i64 p.2]))) [f1, f2]).map List.flatten = _
  simp [h1, h2, h3, h4, cellsInt, e1, e2]
/-- what a pair reads as -/
def kP (p : Int × Int) : Lit := .string (keyBytes [.int .i64 p.1, .int .i64 p.2])
theorem key_pair {p : Int × Int} (h : I64 p) : keyOf Tryd.prog 42 (vP p) = some (kP p) := by
  unfold keyOf vP
  rw [undPair]
  have hk : Tryd.prog.keyType 42 = true := by kernel_rfl
  have hf : (Value.agg #[.int .i64 p.1, .int .i64 p.2]).formed Tryd.prog 42 = true := by kernel_rfl
  have hl := lits_pair (d := Tryd.prog.types.size - 1) h
  have hpos : 0 < Tryd.prog.types.size := Nat.lt_of_le_of_lt (Nat.zero_le _) rowPair
  have hs : Tryd.prog.types.size - 1 + 2 = Tryd.prog.types.size + 1 := by omega
  rw [hs] at hl
  simp only [hk, hf, Bool.and_self, if_true]
  rw [show (Value.agg #[.int .i64 p.1, .int .i64 p.2]).cells.toList = [.int .i64 p.1, .int .i64 p.2] from rfl, hl]
  rfl
theorem kP_inj {p q : Int × Int} (hp : I64 p) (hq : I64 q) (h : kP p = kP q) : p = q := by
  have := keyedPair.inj (key_pair hp) (by rw [h]; exact key_pair hq)
  unfold vP at this
  injection this with this; injection this with this; injection this with h1 h2; injection h2 with h2 _
  injection h1 with _ h1; injection h2 with _ h2
  exact Prod.ext h1 h2
theorem undMap : Tryd.prog.underlying 88 = some (.map 42 4) := by kernel_rfl
theorem undBool : Tryd.prog.underlying 4 = some .bool := by kernel_rfl
theorem zeroBool (w : World) : (zeroValue 4).run Tryd.prog w = .ok (.bool false) w := by kernel_rfl
theorem plainBool (x : Bool) : plainElem (H := Unit) Tryd.prog 4 (.bool x) = some (.lit (.bool x), []) := plainElem_bool undBool x
theorem plainBool_inv {v : Value} {z : DataW Unit × List MemPlace} (h : plainElem Tryd.prog 4 v = some z) : ∃ x, v = .bool x ∧ z = (.lit (.bool x), []) := by
  unfold plainElem at h
  rw [undBool] at h
  cases v <;> simp at h
  exact ⟨_, rfl, h.symm⟩
/-- what the datum D says of a pair -/
def SayM (D : DataW Unit) (S : Int × Int → Option Bool) : Prop := ∀ p, I64 p → D.atKey (kP p) (.lit (.bool false)) = .lit (.bool ((S p).getD false)) ∧ Maps.has D (kP p) = (S p).isSome
/-- block b is a map of at most n entries that holds S -/
def MpB (w : World) (b n : Nat) (S : Int × Int → Option Bool) : Prop := ∃ D : DataW Unit, w.ownsMap Tryd.prog 42 (plainElem Tryd.prog 4) b n D ∧ SayM D S
def setS (S : Int × Int → Option Bool) (p : Int × Int) (x : Bool) : Int × Int → Option Bool := fun q => if q = p then some x else S q
theorem MpB.made (w : World) : MpB (w.alloc (.map #[] 0)) w.heap.size 0 (fun _ => none) := ⟨.map [], World.ownsMap_made w _ _ _, fun _ _ => ⟨rfl, rfl⟩⟩
section
variable {w w' : World} {b n : Nat} {S : Int × Int → Option Bool}
theorem MpB.lt (h : MpB w b n S) : b < w.heap.size := by obtain ⟨D, h1, _⟩ := h; exact h1.lt
theorem MpB.kept {row : Option Nat} (h : MpB w b n S) (hg : w.grownBy w' row) (hne : some b ≠ row) : MpB w' b n S := by
  obtain ⟨D, h1, h2⟩ := h
  exact ⟨D, h1.kept hg hne, h2⟩
theorem MpB.below (h : MpB w b n S) (hb : Below w.heap.size w w') : MpB w' b n S := h.kept (grownBy_of_below hb none) (by simp)
theorem MpB.mono (h : MpB w b n S) {n' : Nat} (hn : n ≤ n') : MpB w b n' S := by
  obtain ⟨D, h1, h2⟩ := h
  exact ⟨D, h1.mono hn, h2⟩
theorem SayM.put {D : DataW Unit} (hD : Maps.IsMap D) (h : SayM D S) {p : Int × Int} (hp : I64 p) (x : Bool) : SayM (D.put (kP p) (.lit (.bool x))) (setS S p x) := fun q hq => by
  unfold setS
  by_cases e : q = p
  · subst e
    rw [if_pos rfl]
    exact ⟨Maps.atKey_put_same hD (keyedPair.key (key_pair hq)) _ _, Maps.has_put_same hD (keyedPair.key (key_pair hq)) _⟩
  · rw [if_neg e]
    have hne : kP q ≠ kP p := fun h => e (kP_inj hq hp h)
    rw [Maps.atKey_put_other hne, Maps.has_put_other hne]
    exact h q hq
end
section
variable (w : World) {ops : Array Oper} {rest : List Oper} {o : Oper} {a : Act} {Q : Exit → Act → World → Prop}
/-- 'm[p]' -/
theorem wpList_lookP (hg : o.guard = none) (m x : Operand) (hop : o.op = Op.lookup 88 m x false) (b n : Nat) (S : Int × Int → Option Bool) (hm : a.eval m = .map (some b)) (hown : MpB w b n S) (p : Int × Int) (hp : I64 p) (hx : a.eval x = .agg #[.int .i64 p.1, .int .i64 p.2])
    (hK : wpList Tryd.prog ops Q rest (a.put o.dst (.bool ((S p).getD false))) w) : wpList Tryd.prog ops Q (o :: rest) a w := by
  refine wpList_plain hg fun K' hK' => ?_
  obtain ⟨D, h1, h2⟩ := hown
  obtain ⟨v, ps, hrun, hv⟩ := h1.lookup keyedPair undMap (zeroBool w) (plainBool false) (key_pair hp)
  obtain ⟨c, rfl, hc⟩ := plainBool_inv hv
  rw [(h2 p hp).1] at hc
  injection hc with hc _
  injection hc with hc
  injection hc with hc
  subst hc
  unfold vP at hrun
  unfold Oper.wp
  simp [execOp, hop, hm, hx, hrun, Result.andThen]
  exact hK' _ _ hK
/-- 'm[p] = x' -/
theorem wpList_putP (hg : o.guard = none) (m x v : Operand) (hop : o.op = Op.mapUpdate 88 m x v) (b n : Nat) (S : Int × Int → Option Bool) (hm : a.eval m = .map (some b)) (hown : MpB w b n S) (hn : n ≤ 1000000) (p : Int × Int) (hp : I64 p) (y : Bool) (hx : a.eval x = .agg #[.int .i64 p.1, .int .i64 p.2]) (hv : a.eval v = .bool y)
    (hK : ∀ w', MpB w' b (n + 1) (setS S p y) → w.grownBy w' (some b) → wpList Tryd.prog ops Q rest (a.put o.dst undef) w') : wpList Tryd.prog ops Q (o :: rest) a w := by
  obtain ⟨D, h1, h2⟩ := hown
  exact wpList_mapUpdate_own w hg m x v _ hop _ _ keyedPair undMap _ b n D hm h1 (by unfold maxLen; omega) _ _ (kP p) hx hv (key_pair hp) _ _ (plainBool y) fun w' h3 h4 => hK w' ⟨_, h3, h2.put h1.isMap hp y⟩ h4
end
theorem wf_i64_inv {x : Int} (h : (Lit.int .i64 x).wf = true) : -9223372036854775808 ≤ x ∧ x ≤ 9223372036854775807 := by
  unfold Lit.wf at h
  rw [Bool.and_eq_true, decide_eq_true_eq, decide_eq_true_eq] at h
  have h1 : IntKind.min .i64 = -9223372036854775808 := by rfl
  have h2 : IntKind.max .i64 = 9223372036854775807 := by rfl
  rw [h1, h2] at h
  exact h
set_option maxRecDepth 100000 in
theorem lits_int_inv {d : Nat} {cs : List Value} {ls : List Lit} (h : Tryd.prog.keyLits (d + 1) 3 cs = some ls) : ∃ x, cs = [.int .i64 x] ∧ -9223372036854775808 ≤ x ∧ x ≤ 9223372036854775807 := by
  obtain ⟨x, rfl, rfl⟩ := keyLits_int' Tryd.underlying3 h
  refine ⟨x, rfl, ?_⟩
  unfold Program.keyLits at h
  rw [Tryd.underlying3] at h
  by_cases hw : (Lit.int .i64 x).wf = true
  · exact wf_i64_inv hw
  · simp [hw] at h
theorem lits_pair_inv {d : Nat} {cs : List Value} {ls : List Lit} (h : Tryd.prog.keyLits (d + 2) 42 cs = some ls) : ∃ p : Int × Int, cs = [.int .i64 p.1, .int .i64 p.2] ∧ I64 p := by
  unfold Program.keyLits at h
  rw [undPair] at h
  have hf := fieldsPair
  generalize Tryd.prog.fieldsOf 42 = fs at *
  obtain ⟨fl⟩ := fs
  have hl2 : fl.length = 2 := by simpa using congrArg List.length hf
  obtain ⟨f1, f2, rfl⟩ : ∃ f1 f2, fl = [f1, f2] := by
    cases fl with
    | nil => cases hl2
    | cons f1 r => cases r with
      | nil => cases hl2
      | cons f2 r => cases r with
        | nil => exact ⟨f1, f2, rfl⟩
        | cons f3 r => simp at hl2
  simp only [List.map_cons, List.map_nil, List.cons.injEq, Prod.mk.injEq, and_true] at hf
  obtain ⟨⟨h1, h2⟩, h3, h4⟩ := hf
  dsimp only at h
  by_cases hc : cs.length = Tryd.prog.cellsOf 42 ∧ (#[f1, f2] : Array Field).all (fun f => f.name != "_") = true
  · rw [if_pos hc] at h
    have hl : cs.length = 2 := by rw [hc.1, cellsPair]
    obtain ⟨x, y, rfl⟩ : ∃ x y, cs = [x, y] := by
      cases cs with
      | nil => cases hl
      | cons x r => cases r with
        | nil => cases hl
        | cons y r => cases r with
          | nil => exact ⟨x, y, rfl⟩
          | cons z r => simp at hl
    simp [h1, h2, h3, h4, cellsInt] at h
    cases e1 : Tryd.prog.keyLits (d + 1) 3 [x] with
    | none => rw [e1] at h; simp at h
    | some l1 =>
      cases e2 : Tryd.prog.keyLits (d + 1) 3 [y] with
      | none => rw [e1, e2] at h; simp at h
      | some l2 =>
        obtain ⟨a, ha, ha2⟩ := lits_int_inv e1
        obtain ⟨b, hb, hb2⟩ := lits_int_inv e2
        injection ha with ha _; injection hb with hb _
        exact ⟨(a, b), by rw [ha, hb], ha2, hb2⟩
  · rw [if_neg hc] at h; cases h
theorem key_pair_inv {v : Value} {kl : Lit} (h : keyOf Tryd.prog 42 v = some kl) : ∃ p : Int × Int, v = .agg #[.int .i64 p.1, .int .i64 p.2] ∧ I64 p ∧ kl = kP p := by
  have hw := h
  unfold keyOf at h
  rw [undPair] at h
  by_cases hf : (Tryd.prog.keyType 42 && v.formed Tryd.prog 42) = true
  · simp only [hf, if_true] at h
    rw [Bool.and_eq_true] at hf
    have hf2 := hf.2
    cases v with
    | agg cs =>
      have hpos : 0 < Tryd.prog.types.size := Nat.lt_of_le_of_lt (Nat.zero_le _) rowPair
      have hs : Tryd.prog.types.size + 1 = Tryd.prog.types.size - 1 + 2 := by omega
      rw [hs] at h
      cases e : Tryd.prog.keyLits (Tryd.prog.types.size - 1 + 2) 42 (Value.agg cs).cells.toList with
      | none => rw [e] at h; cases h
      | some ls =>
        obtain ⟨p, hp, hr⟩ := lits_pair_inv e
        have hcs : cs.toList = [.int .i64 p.1, .int .i64 p.2] := hp
        have hcs2 : cs = #[.int .i64 p.1, .int .i64 p.2] := by
          cases cs; simp at hcs; subst hcs; rfl
        subst hcs2
        refine ⟨p, rfl, hr, ?_⟩
        have := key_pair hr
        unfold vP at this
        rw [hw] at this
        injection this
    | _ => simp [Value.formed] at hf2
  · simp [hf] at h
/-- 'for p, x := range m' under way: r the iterator, todo what is still to come -/
def RgB (w : World) (b r n : Nat) (S : Int × Int → Option Bool) (todo : Int × Int → Bool) (cnt : Nat) : Prop :=
  ∃ (D : DataW Unit) (left : Lit → Bool), w.ranges Tryd.prog 42 (plainElem Tryd.prog 4) b r n D left cnt ∧ SayM D S ∧ ∀ p, I64 p → left (kP p) = todo p
section
variable {w w' : World} {b r n cnt : Nat} {S : Int × Int → Option Bool} {todo : Int × Int → Bool}
theorem RgB.left_eq (h : RgB w b r n S todo cnt) : w.rangeLeft b r = cnt := by obtain ⟨D, left, h1, _⟩ := h; exact h1.left_eq
theorem RgB.lt (h : RgB w b r n S todo cnt) : b < w.heap.size ∧ r < w.heap.size := by obtain ⟨D, left, h1, _⟩ := h; exact ⟨h1.owns.lt, h1.lt⟩
theorem RgB.kept {row : Option Nat} (h : RgB w b r n S todo cnt) (hg : w.grownBy w' row) (hb : some b ≠ row) (hr : some r ≠ row) : RgB w' b r n S todo cnt := by
  obtain ⟨D, left, h1, h2⟩ := h
  exact ⟨D, left, h1.kept hg hb hr, h2⟩
theorem RgB.below (h : RgB w b r n S todo cnt) (hb : Below w.heap.size w w') : RgB w' b r n S todo cnt := h.kept (grownBy_of_below hb none) (by simp) (by simp)
end
section
variable (w : World) {ops : Array Oper} {rest : List Oper} {o : Oper} {a : Act} {Q : Exit → Act → World → Prop}
/-- 'range m' -/
theorem wpList_rangeP (hg : o.guard = none) (m : Operand) (hop : o.op = Op.range 88 m) (b n : Nat) (S : Int × Int → Option Bool) (hm : a.eval m = .map (some b)) (hown : MpB w b n S)
    (hK : ∀ w' cnt, RgB w' b w.heap.size n S (fun p => (S p).isSome) cnt → w.grownBy w' none → w'.heap.size = w.heap.size + 1 → wpList Tryd.prog ops Q rest (a.put o.dst (.pointer (some ⟨w.heap.size, 0, none⟩))) w') : wpList Tryd.prog ops Q (o :: rest) a w := by
  obtain ⟨D, h1, h2⟩ := hown
  exact wpList_range_own w hg m _ hop _ _ keyedPair undMap _ b n D hm h1 fun w' h3 h4 h5 => hK w' _ ⟨D, _, h3, h2, fun p hp => (h2 p hp).2⟩ h4 h5
set_option maxRecDepth 100000 in
/-- the step -/
theorem wpList_nextP (hg : o.guard = none) (it : Operand) (hop : o.op = Op.next it false) (b r n cnt : Nat) (S : Int × Int → Option Bool) (todo : Int × Int → Bool) (hit : a.eval it = .pointer (some ⟨r, 0, none⟩)) (h : RgB w b r n S todo cnt)
    (hDone : (∀ p, I64 p → todo p = false) → wpList Tryd.prog ops Q rest (a.put o.dst (.tuple #[.bool false])) w)
    (hMore : ∀ (p : Int × Int) (w' : World) (cnt' : Nat), I64 p → todo p = true → RgB w' b r n S (fun q => todo q && !decide (q = p)) cnt' → cnt' < cnt → w.grownBy w' (some r) → w'.heap.size = w.heap.size →
      (Instr.entry (.pointer (some ⟨r, 0, none⟩))).run Tryd.prog w' = .ok (.tuple #[.agg #[.int .i64 p.1, .int .i64 p.2], .bool ((S p).getD false)]) w' →
      wpList Tryd.prog ops Q rest (a.put o.dst (.tuple #[.bool true, .agg #[.int .i64 p.1, .int .i64 p.2], .bool ((S p).getD false)])) w') : wpList Tryd.prog ops Q (o :: rest) a w := by
  obtain ⟨D, left, h1, h2, h3⟩ := h
  refine wpList_next_ranges w hg it hop _ keyedPair (plainElem Tryd.prog 4) (fun p : Int × Int => vP p) (fun x : Bool => .bool x) (fun key kl hk => ?_) (fun v y hv => ?_) b r n D left cnt hit h1 (fun _ hl => hDone fun p hp => by rw [← h3 p hp]; exact hl _) ?_
  · obtain ⟨p, rfl, _, _⟩ := key_pair_inv hk
    exact ⟨p, rfl⟩
  · obtain ⟨x, rfl, _⟩ := plainBool_inv hv
    exact ⟨x, rfl⟩
  · intro p c kl y w' cnt' hk hl hc hat hr hlt hgr hsz hen
    obtain ⟨q, hq, hqi, rfl⟩ := key_pair_inv hk
    have hpq : p = q := by
      unfold vP at hq
      injection hq with hq; injection hq with hq; injection hq with e1 e2; injection e2 with e2 _
      injection e1 with _ e1; injection e2 with _ e2
      exact Prod.ext e1 e2
    subst hpq
    obtain ⟨c', hcc, hy⟩ := plainBool_inv hc
    injection hcc with hcc
    subst hcc
    have hs : c = (S p).getD false := by
      have e := hat (.lit (.bool false))
      rw [(h2 p hqi).1, hy] at e
      injection e with e
      injection e with e
      exact e.symm
    subst hs
    refine hMore p w' cnt' hqi (by rw [← h3 p hqi]; exact hl) ⟨D, _, hr, h2, fun q hq' => ?_⟩ hlt hgr hsz hen
    show (left (kP q) && !(kP q).sameKey (kP p)) = _
    rw [h3 q hq']
    by_cases e : q = p
    · subst e
      rw [WideAt.sameKey_self (keyedPair.key (key_pair hq'))]
      simp
    · rw [Maps.sameKey_ne (fun h => e (kP_inj hq' hqi h))]
      simp [e]
end
section
variable {ops : Array Oper} {Q : Exit → Act → World → Prop} {S0 : World → Prop} {es : List Nat} {k : Nat} {J : World → Prop} {o : Oper} {rest : List Oper} {a : Act}
/-- 'm[p]' in a region that draws its order -/
theorem TxtBL.lookP (hk : es.contains k = true) (hw : Region.wanted o (yielded ops a.tmps) = true) (m x : Operand) (hop : o.op = Op.lookup 88 m x false) (b n : Nat) (S : Int × Int → Option Bool) (p : Int × Int) (hp : I64 p)
    (hm : a.eval m = .map (some b)) (hx : a.eval x = .agg #[.int .i64 p.1, .int .i64 p.2]) (h : ∀ w, S0 w → J w → MpB w b n S)
    (hr : TxtBL Tryd.prog ops Q S0 es (k + 1) rest J (a.put o.dst (.bool ((S p).getD false)))) : TxtBL Tryd.prog ops Q S0 es k (o :: rest) J a := by
  refine TxtBL.value (fun v => v = .bool ((S p).getD false)) (fun _ => J) hk hw ⟨_, rfl⟩ (fun w hS hJ => ?_) (fun v hv => by subst hv; exact hr)
  obtain ⟨D, h1, h2⟩ := h w hS hJ
  obtain ⟨v, ps, hrun, hv⟩ := h1.lookup keyedPair undMap (zeroBool w) (plainBool false) (key_pair hp)
  obtain ⟨c, rfl, hc⟩ := plainBool_inv hv
  rw [(h2 p hp).1] at hc
  injection hc with hc _
  injection hc with hc
  injection hc with hc
  subst hc
  unfold vP at hrun
  refine ⟨_, w, ?_, hS, rfl, hJ⟩
  simp [execOp, hop, hm, hx, hrun, Result.andThen]
/-- 'm[p] = x' in a region that draws its order -/
theorem TxtBL.putP (hk : es.contains k = true) (hw : Region.wanted o (yielded ops a.tmps) = true) (m x v : Operand) (hop : o.op = Op.mapUpdate 88 m x v) (b n : Nat) (S : Int × Int → Option Bool) (hn : n ≤ 1000000) (p : Int × Int) (hp : I64 p) (y : Bool)
    (hm : a.eval m = .map (some b)) (hx : a.eval x = .agg #[.int .i64 p.1, .int .i64 p.2]) (hv : a.eval v = .bool y) (J' : World → Prop) (h : ∀ w, S0 w → J w → MpB w b n S)
    (h' : ∀ w w', S0 w → J w → MpB w' b (n + 1) (setS S p y) → w.grownBy w' (some b) → S0 w' ∧ J' w')
    (hr : TxtBL Tryd.prog ops Q S0 es (k + 1) rest J' (a.put o.dst undef)) : TxtBL Tryd.prog ops Q S0 es k (o :: rest) J a := by
  refine TxtBL.eff (fun v => v = undef) (fun _ => J') hk hw ⟨_, rfl⟩ (fun w hS hJ => ?_) (fun v hv => by subst hv; exact hr)
  obtain ⟨D, h1, h2⟩ := h w hS hJ
  obtain ⟨w', hrun, r1, r2⟩ := h1.update keyedPair undMap (by unfold maxLen; omega) (key_pair hp) (plainBool y)
  obtain ⟨h3, h4⟩ := h' w w' hS hJ ⟨_, r1, h2.put h1.isMap hp y⟩ r2
  unfold vP at hrun
  unfold Eff Oper.wp
  simp [execOp, hop, hm, hx, hv, hrun, Result.andThen, Oper.upon]
  exact ⟨undef, rfl, h3, rfl, h4⟩
theorem MpB.drew {w : World} {b n : Nat} {S : Int × Int → Option Bool} (h : MpB w b n S) : MpB w.drew b n S := h
end
/-- the pairs of the list, as a map -/
def inM (G : List (Int × Int)) : Int × Int → Option Bool := fun p => if p ∈ G then some true else none
theorem inM_nil : inM [] = fun _ => none := by funext p; simp [inM]
theorem mem_take_succ {G : List (Int × Int)} {k : Nat} (hk : k < G.length) (p : Int × Int) : p ∈ G.take (k + 1) ↔ p = G[k] ∨ p ∈ G.take k := by
  rw [List.take_succ_eq_append_getElem hk, List.mem_append, List.mem_singleton, or_comm]
theorem setS_inM {G : List (Int × Int)} {k : Nat} (hk : k < G.length) : setS (inM (G.take k)) G[k] true = inM (G.take (k + 1)) := by
  funext p
  unfold setS inM
  by_cases e : p = G[k]
  · rw [if_pos e, if_pos ((mem_take_succ hk p).2 (.inl e))]
  · rw [if_neg e]
    by_cases h : p ∈ G.take k
    · rw [if_pos h, if_pos ((mem_take_succ hk p).2 (.inr h))]
    · rw [if_neg h, if_neg (fun h' => ((mem_take_succ hk p).1 h').elim e h)]
theorem inM_get (G : List (Int × Int)) (p : Int × Int) : (inM G p).getD false = decide (p ∈ G) := by unfold inM; by_cases h : p ∈ G <;> simp [h]
/-- the pairs of G with those of L toggled -/
def tgM (G L : List (Int × Int)) : Int × Int → Option Bool := fun p => if p ∈ L then some (!decide (p ∈ G)) else inM G p
theorem tgM_nil (G : List (Int × Int)) : tgM G [] = inM G := by funext p; simp [tgM]
theorem tgM_get (G L : List (Int × Int)) (p : Int × Int) : (tgM G L p).getD false = (decide (p ∈ G) != decide (p ∈ L)) := by
  unfold tgM
  by_cases h : p ∈ L
  · rw [if_pos h]; simp [h]
  · rw [if_neg h, inM_get]; simp [h]
theorem setS_tgM {G L : List (Int × Int)} {k : Nat} (hk : k < L.length) (hn : L[k] ∉ L.take k) : setS (tgM G (L.take k)) L[k] (!(tgM G (L.take k) L[k]).getD false) = tgM G (L.take (k + 1)) := by
  funext p
  rw [tgM_get]
  unfold setS tgM
  by_cases e : p = L[k]
  · subst e
    rw [if_pos rfl, if_pos ((mem_take_succ hk _).2 (.inl rfl))]
    simp [hn]
  · rw [if_neg e]
    by_cases h : p ∈ L.take k
    · rw [if_pos h, if_pos ((mem_take_succ hk p).2 (.inr h))]
    · rw [if_neg h, if_neg (fun h' => ((mem_take_succ hk p).1 h').elim e h)]
end Go.Proofs.YtncimnfhfomddaaDoor
