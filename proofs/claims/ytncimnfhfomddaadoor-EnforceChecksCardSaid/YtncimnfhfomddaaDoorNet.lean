import Derived.Test.YtncimnfhfomddaaDoorBas
import Derived.Test.YtncimnfhfomddaaDoorAdm
import Derived.Deep.Cut
import Derived.Test.YtncimnfhfomddaaDoorGr
import Derived.Test.YtncimnfhfomddaaDoorTx3
import Derived.Test.YtncimnfhfomddaaDoorTxtZ
import Derived.Deep.DeepCutAuto
/- The search of the credulous game, in plain words: sets of bits, no program in sight. -/
namespace Go.Proofs.YtncimnfhfomddaaDoor

/-- s attacks j -/
def hitX (N : Nat) (att : Nat → Nat → Bool) (s : Nat) (j : Nat) : Bool := (List.range N).any fun i => s.testBit i && att i j
def freeS (N : Nat) (att : Nat → Nat → Bool) (s : Nat) : Bool := (List.range N).all fun j => !(s.testBit j && hitX N att s j)
/-- j attacks s -/
def foeS (N : Nat) (att : Nat → Nat → Bool) (s : Nat) (j : Nat) : Bool := (List.range N).any fun i => s.testBit i && att j i
def openS (N : Nat) (att : Nat → Nat → Bool) (s : Nat) : List Nat := (List.range N).filter fun j => foeS N att s j && !hitX N att s j
def firstSome (f : Nat → Option Nat) : List Nat → Option Nat
  | [] => none
  | x :: r => match f x with
    | some v => some v
    | none => firstSome f r
def srS (N : Nat) (att : Nat → Nat → Bool) : Nat → Nat → Option Nat
  | 0, _ => none
  | k + 1, s => if freeS N att s = true then
      match openS N att s with
      | [] => some s
      | x :: _ => firstSome (fun y => srS N att k (s ||| 1 <<< y)) ((List.range N).filter fun y => att y x)
    else none
structure AdmS (N : Nat) (att : Nat → Nat → Bool) (s : Nat) : Prop where
  free : freeS N att s = true
  defd : openS N att s = []
theorem firstSome_some {f : Nat → Option Nat} {v : Nat} : ∀ {l : List Nat}, firstSome f l = some v → ∃ x ∈ l, f x = some v
  | [], h => by cases h
  | x :: r, h => by
    unfold firstSome at h
    split at h
    · next e => exact ⟨x, by simp, by rw [e, h]⟩
    · obtain ⟨y, hy, e⟩ := firstSome_some h
      exact ⟨y, by simp [hy], e⟩
theorem firstSome_none {f : Nat → Option Nat} : ∀ {l : List Nat}, firstSome f l = none → ∀ x ∈ l, f x = none
  | [], _, x, hx => by cases hx
  | y :: r, h, x, hx => by
    unfold firstSome at h
    split at h
    · cases h
    · next e =>
      rw [List.mem_cons] at hx
      rcases hx with rfl | hx
      · exact e
      · exact firstSome_none h x hx
/-- what is found is admissible and holds what was asked for -/
theorem srS_sound {N : Nat} {att : Nat → Nat → Bool} : ∀ {k s r : Nat}, srS N att k s = some r → AdmS N att r ∧ ∀ i, s.testBit i = true → r.testBit i = true
  | 0, _, _, h => by cases h
  | k + 1, s, r, h => by
    unfold srS at h
    by_cases hf : freeS N att s = true
    · rw [if_pos hf] at h
      cases ho : openS N att s with
      | nil =>
        rw [ho] at h
        injection h with h; subst h
        exact ⟨⟨hf, ho⟩, fun i hi => hi⟩
      | cons x t =>
        rw [ho] at h
        obtain ⟨y, _, e⟩ := firstSome_some h
        obtain ⟨h1, h2⟩ := srS_sound e
        exact ⟨h1, fun i hi => h2 i (by rw [Nat.testBit_or, hi, Bool.true_or])⟩
    · rw [if_neg hf] at h; cases h
theorem hitX_iff {N : Nat} {att : Nat → Nat → Bool} {s j : Nat} : hitX N att s j = true ↔ ∃ i, i < N ∧ s.testBit i = true ∧ att i j = true := by
  unfold hitX
  rw [List.any_eq_true]
  constructor
  · rintro ⟨i, hi, e⟩
    rw [List.mem_range] at hi
    rw [Bool.and_eq_true] at e
    exact ⟨i, hi, e.1, e.2⟩
  · rintro ⟨i, hi, e1, e2⟩
    exact ⟨i, List.mem_range.2 hi, by rw [e1, e2]; rfl⟩
theorem foeS_iff {N : Nat} {att : Nat → Nat → Bool} {s j : Nat} : foeS N att s j = true ↔ ∃ i, i < N ∧ s.testBit i = true ∧ att j i = true := by
  unfold foeS
  rw [List.any_eq_true]
  constructor
  · rintro ⟨i, hi, e⟩
    rw [List.mem_range] at hi
    rw [Bool.and_eq_true] at e
    exact ⟨i, hi, e.1, e.2⟩
  · rintro ⟨i, hi, e1, e2⟩
    exact ⟨i, List.mem_range.2 hi, by rw [e1, e2]; rfl⟩
theorem freeS_iff {N : Nat} {att : Nat → Nat → Bool} {s : Nat} : freeS N att s = true ↔ ∀ i j, i < N → j < N → s.testBit i = true → s.testBit j = true → att i j = false := by
  unfold freeS
  rw [List.all_eq_true]
  constructor
  · intro h i j hi hj si sj
    have := h j (List.mem_range.2 hj)
    rw [sj, Bool.true_and, Bool.not_eq_true'] at this
    cases e : att i j
    · rfl
    · rw [hitX_iff.2 ⟨i, hi, si, e⟩] at this; cases this
  · intro h j hj
    rw [List.mem_range] at hj
    cases sj : s.testBit j
    · rfl
    · rw [Bool.true_and, Bool.not_eq_true', ← Bool.not_eq_true]
      intro e
      obtain ⟨i, hi, si, a⟩ := hitX_iff.1 e
      rw [h i j hi hj si sj] at a; cases a
theorem openS_nil {N : Nat} {att : Nat → Nat → Bool} {s : Nat} : openS N att s = [] ↔ ∀ j, j < N → foeS N att s j = true → hitX N att s j = true := by
  unfold openS
  rw [List.filter_eq_nil_iff]
  constructor
  · intro h j hj hf
    have := h j (List.mem_range.2 hj)
    cases e : hitX N att s j
    · rw [hf, e] at this; simp at this
    · rfl
  · intro h j hj e
    rw [List.mem_range] at hj
    rw [Bool.and_eq_true, Bool.not_eq_true'] at e
    rw [h j hj e.1] at e; cases e.2
theorem bit_with {s y i : Nat} : (s ||| 1 <<< y).testBit i = (s.testBit i || decide (i = y)) := by
  rw [Nat.testBit_or, Nat.one_shiftLeft, Nat.testBit_two_pow]
  congr 1
  exact decide_eq_decide.2 eq_comm
def cntS (N s : Nat) : Nat := (List.range N).countP fun i => s.testBit i
theorem cntS_with {s y : Nat} (hs : s.testBit y = false) : ∀ N, cntS N (s ||| 1 <<< y) = cntS N s + if y < N then 1 else 0
  | 0 => rfl
  | N + 1 => by
    have ih := cntS_with hs N
    unfold cntS at ih ⊢
    rw [List.range_succ, List.countP_append, List.countP_append, ih]
    simp only [List.countP_cons, List.countP_nil, bit_with]
    by_cases e : N = y
    · subst e
      rw [hs]; simp
    · have e1 : decide (N = y) = false := decide_eq_false e
      rw [e1, Bool.or_false]
      by_cases h : y < N
      · rw [if_pos h, if_pos (show y < N + 1 by omega)]; omega
      · rw [if_neg h, if_neg (show ¬ y < N + 1 by omega)]; omega
theorem cntS_le (N s : Nat) : cntS N s ≤ N := by
  unfold cntS
  exact Nat.le_trans List.countP_le_length (by simp)
/-- an admissible set that holds what was asked for is there: something is found -/
theorem srS_compl {N : Nat} {att : Nat → Nat → Bool} {a : Nat} (ha : AdmS N att a) : ∀ {k s : Nat}, (∀ i, i < N → s.testBit i = true → a.testBit i = true) → N < k + cntS N s → srS N att k s ≠ none
  | 0, s, _, hk => by have := cntS_le N s; omega
  | k + 1, s, hs, hk => by
    have hf : freeS N att s = true := freeS_iff.2 fun i j hi hj si sj => freeS_iff.1 ha.free i j hi hj (hs i hi si) (hs j hj sj)
    unfold srS
    rw [if_pos hf]
    cases ho : openS N att s with
    | nil => simp
    | cons x t =>
      intro e
      have hx : x ∈ openS N att s := by rw [ho]; simp
      unfold openS at hx
      rw [List.mem_filter, List.mem_range, Bool.and_eq_true, Bool.not_eq_true'] at hx
      obtain ⟨hxN, hxf, hxh⟩ := hx
      obtain ⟨i, hi, si, hai⟩ := foeS_iff.1 hxf
      obtain ⟨y, hy, ay, hyx⟩ := hitX_iff.1 (openS_nil.1 ha.defd x hxN (foeS_iff.2 ⟨i, hi, hs i hi si, hai⟩))
      have sy : s.testBit y = false := by
        cases e2 : s.testBit y
        · rfl
        · rw [hitX_iff.2 ⟨y, hy, e2, hyx⟩] at hxh; cases hxh
      have h := firstSome_none e y (List.mem_filter.2 ⟨List.mem_range.2 hy, hyx⟩)
      refine srS_compl ha (fun j hj sj => ?_) ?_ h
      · rw [bit_with, Bool.or_eq_true, decide_eq_true_iff] at sj
        rcases sj with sj | rfl
        · exact hs j hj sj
        · exact ay
      · rw [cntS_with sy, if_pos hy]; omega
/-- the answer to an attacker: the first node of s that attacks it -/
def pickS (N : Nat) (att : Nat → Nat → Bool) (s x : Nat) : Nat := ((List.range N).filter fun y => att y x && s.testBit y).headD 0
theorem pick_ok {N : Nat} {att : Nat → Nat → Bool} {s x : Nat} (ha : AdmS N att s) (hx : x < N) (hf : foeS N att s x = true) : pickS N att s x < N ∧ s.testBit (pickS N att s x) = true ∧ att (pickS N att s x) x = true := by
  obtain ⟨y, hy, sy, hyx⟩ := hitX_iff.1 (openS_nil.1 ha.defd x hx hf)
  have hm : y ∈ (List.range N).filter fun y => att y x && s.testBit y := List.mem_filter.2 ⟨List.mem_range.2 hy, by rw [sy, hyx]; rfl⟩
  unfold pickS
  cases e : (List.range N).filter fun y => att y x && s.testBit y with
  | nil => rw [e] at hm; cases hm
  | cons z t =>
    have hz : z ∈ (List.range N).filter fun y => att y x && s.testBit y := by rw [e]; simp
    rw [List.mem_filter, List.mem_range, Bool.and_eq_true] at hz
    exact ⟨hz.1, hz.2.2, hz.2.1⟩
/-- a reply: the attacker, the node that answers it -/
structure RpOk (N : Nat) (att : Nat → Nat → Bool) (s : Nat) (r : Nat × Nat) : Prop where
  lt : r.1 < N
  foe : foeS N att s r.1 = true
  pick : r.2 = pickS N att s r.1
/-- nodes that the law reaches lie in s -/
def InSx (N s : Nat) (l : List Nat) : Prop := ∀ y ∈ l, y < N ∧ s.testBit y = true
theorem RpOk.node {N : Nat} {att : Nat → Nat → Bool} {s : Nat} {r : Nat × Nat} (ha : AdmS N att s) (h : RpOk N att s r) : r.2 < N ∧ s.testBit r.2 = true := by
  rw [h.pick]
  have := pick_ok ha h.lt h.foe
  exact ⟨this.1, this.2.1⟩
theorem InSx.snoc {N s : Nat} {l : List Nat} (h : InSx N s l) {y : Nat} (hy : y < N ∧ s.testBit y = true) : InSx N s (l ++ [y]) := fun z hz => by
  rw [List.mem_append, List.mem_singleton] at hz
  rcases hz with hz | rfl
  · exact h z hz
  · exact hy
end Go.Proofs.YtncimnfhfomddaaDoor

/- Package network: the nodes of a set of bits, in order. -/
namespace Go.Proofs.YtncimnfhfomddaaDoor
open Go.ChangeShapes Go.WideShapes Go.ChangeAt Go.RowKit

set_option maxHeartbeats 1000000 in
theorem netList_any (m : Nat) (hm : m < 18446744073709551616) (w : World) (hT : Tab w) :
    Calls Tryd.prog 64 #[.int .u64 (m : Int)] w (RetI (nodesB 64 m.testBit) w) := by
  have Hm := Lib.hid hm; clear hm
  go_enter Tryd.func64, Tryd.ntmps64
  go_wp2
  go_loopw [0, 3] (fun s v wr => ∃ (z : Nat) (out : List Int), s = .int .u64 z ∧ z < 18446744073709551616 ∧ OwnI wr w.heap.size v out ∧ out ++ nodesB 64 z.testBit = nodesB 64 m.testBit ∧ Below w.heap.size w wr) (fun s _ _ => (intOf s).toNat)
  case atStart => exact ⟨m, [], rfl, Hm.out, OwnI.nil _ _, rfl, Below.refl _ _⟩
  case round =>
    obtain ⟨z, out, rfl, hz, hown, hsum, hbl⟩ := hrel
    have Hs := Lib.hid hsum; have Hz := Lib.hid hz; have Hown := Lib.hid hown; clear hsum hz hown
    by_cases h0 : z = 0
    · subst h0
      go_wp2
      go_ret
      refine RetI.mk ?_ hbl
      have e : nodesB 64 m.testBit = out := by rw [← Hs.out, nodesB_zero, List.append_nil]
      rw [e]; exact Hown.out
    · have hne : ((z : Int) != 0) = true := by simp; omega
      have H0 := Lib.hid h0; clear h0
      have hlen : out.length ≤ 64 := by
        have h1 : (out ++ nodesB 64 z.testBit).length ≤ 64 := by rw [Hs.out]; exact nodesB_length _ _
        rw [List.length_append] at h1; omega
      have hctz := (low_bit z H0.out Hz.out).1
      have e1 : IntKind.u64.wrap ((z : Int) - 1) = ((z - 1 : Nat) : Int) := by have := H0.out; have := Hz.out; rw [IntKind.wrap_u64]; omega
      have e2 : bits .and .u64 (z : Int) ((z - 1 : Nat) : Int) = ((dropLow z : Nat) : Int) := u64_and_nat z (z - 1) Hz.out (by have := Hz.out; omega)
      go_wp2_with (first
        | (go_at_call 109; refine (tz_any z Hz.out H0.out _ (hT.below hbl)).mono ?_; rintro e w' ⟨rfl, rfl⟩)
        | (at_builtin; refine wpList_appI (by rfl) _ _ (by rfl) wr w.heap.size _ out (Lib.ctz 64 z : Nat) Hown.out (by rfl) (by rfl) (by omega) hbl.size ?_; intro v' w1 hown' hb1 _))
      go_roundw
      case rel =>
        refine ⟨dropLow z, out ++ [(Lib.ctz 64 z : Int)], rfl, ?_, hown', ?_, hbl.trans hb1⟩
        · have := dropLow_lt z H0.out; have := Hz.out; omega
        · rw [List.append_assoc, ← Hs.out, nodesB_low z H0.out Hz.out]; rfl
      case measure => have := dropLow_lt z H0.out; simp [intOf]; omega
set_option maxHeartbeats 1000000 in
theorem netWith_any (m i : Nat) (hm : m < 18446744073709551616) (hi : i < 64) (w : World) :
    Calls Tryd.prog 65 #[.int .u64 (m : Int), .int .i64 (i : Int)] w (Ret (.int .u64 ((m ||| 1 <<< i : Nat) : Int)) w) := by
  have hw : IntKind.u64.wrap (i : Int) = (i : Int) := by rw [IntKind.wrap_u64]; omega
  have h3 : 1 <<< i < 18446744073709551616 := by rw [Nat.one_shiftLeft]; exact two_pow_u64 (by omega)
  have h1 := u64_one_shl i hi
  rw [Int.one_mul] at h1
  have h2 := u64_or_nat m (1 <<< i) hm h3
  have H := Lib.hid (And.intro h1 h2)
  clear h1 h2 hm
  go_enter Tryd.func65, Tryd.ntmps65
  go_wp2_with fail
  go_ret
  refine ⟨?_, rfl⟩
  rw [← H.out.2, ← H.out.1]
  rfl
set_option maxHeartbeats 1000000 in
theorem netHas_any (m i : Nat) (hm : m < 18446744073709551616) (hi : i < 64) (w : World) :
    Calls Tryd.prog 91 #[.int .u64 (m : Int), .int .i64 (i : Int)] w (Ret (.bool (m.testBit i)) w) := by
  have hw : IntKind.u64.wrap (i : Int) = (i : Int) := by rw [IntKind.wrap_u64]; omega
  have e2 : bits .and .u64 ((m >>> i : Nat) : Int) 1 = (((m >>> i) &&& 1 : Nat) : Int) := by
    rcases u64_and_one m i with h | h
    · exact h
    · omega
  have e3 : ((((m >>> i) &&& 1 : Nat) : Int) == 1) = m.testBit i := by
    unfold Nat.testBit
    rw [Nat.and_comm, Nat.one_and_eq_mod_two]
    have := Nat.mod_two_eq_zero_or_one (m >>> i)
    rcases this with h | h <;> rw [h] <;> rfl
  obtain ⟨b, hb⟩ : ∃ b, m.testBit i = b := ⟨_, rfl⟩
  rw [hb] at e3 ⊢
  have E2 := Lib.hid e2; have E3 := Lib.hid e3
  clear hb hm e2 e3
  go_enter Tryd.func91, Tryd.ntmps91
  go_wp2_with fail
  go_ret
  refine ⟨?_, rfl⟩
  rw [u64_shr m i, E2.out, E3.out]
  rfl
end Go.Proofs.YtncimnfhfomddaaDoor

/- Package network: Hit. -/
namespace Go.Proofs.YtncimnfhfomddaaDoor
open Go.ChangeShapes Go.WideShapes Go.ChangeAt Go.RowKit

/-- a row of sets -/
def RU (w : World) (A : Option Addr) (l : List Nat) : Prop :=
  ∀ k, k < l.length → ∃ b o, A = some ⟨b, o, none⟩ ∧ w.cell? ⟨b, o + k, none⟩ = some (.int .u64 ((l.getD k 0 : Nat) : Int))
theorem RU.below {w w' : World} {A : Option Addr} {l : List Nat} (h : RU w A l) (hb : Below w.heap.size w w') : RU w' A l := fun k hk => by
  obtain ⟨b, o, e, h0⟩ := h k hk
  exact ⟨b, o, e, (hb.cell (lt_of_cell h0)).trans h0⟩
/-- the union of the rows' sets at some places -/
def orN (l : List Nat) (xs : List Int) : Nat := xs.foldl (fun z x => z ||| l.getD x.toNat 0) 0
theorem orN_snoc (l : List Nat) (xs : List Int) (x : Int) : orN l (xs ++ [x]) = orN l xs ||| l.getD x.toNat 0 := by simp [orN, List.foldl_append]
theorem orN_lt {l : List Nat} (hl : ∀ x ∈ l, x < 18446744073709551616) : ∀ (xs : List Int), orN l xs < 18446744073709551616 := by
  have key : ∀ (xs : List Int) (z : Nat), z < 2 ^ 64 → xs.foldl (fun z (x : Int) => z ||| l.getD x.toNat 0) z < 2 ^ 64 := fun xs => by
    induction xs with
    | nil => intro z h; exact h
    | cons x r ih =>
      intro z h
      rw [List.foldl_cons]
      refine ih _ (Nat.or_lt_two_pow h ?_)
      rw [List.getD_eq_getElem?_getD]
      cases e : l[x.toNat]? with
      | none => exact Nat.two_pow_pos 64
      | some v => exact hl v (List.mem_of_getElem? e)
  intro xs
  exact key xs 0 (Nat.two_pow_pos 64)
set_option maxRecDepth 100000 in
set_option maxHeartbeats 2000000 in
theorem netHit_any (a m : Nat) (B : Option Addr) (by_ : List Nat) (cb : Nat) (O : Option Addr) (out : List Nat) (co : Nat) (w : World) (hT : Tab w) (hm : m < 18446744073709551616) (hmb : ∀ j, m.testBit j = true → j < out.length) (hr : RU w O out) (hb : ∀ x ∈ out, x < 18446744073709551616) :
    Calls Tryd.prog 110 #[.agg #[.int .u64 (a : Int), .slice B by_.length cb, .slice O out.length co], .int .u64 (m : Int)] w (RetB (.int .u64 ((orN out (nodesB 64 m.testBit) : Nat) : Int)) w) := by
  obtain ⟨xs, hxs⟩ : ∃ xs, nodesB 64 m.testBit = xs := ⟨_, rfl⟩
  have hx : ∀ x ∈ xs, ∃ j : Nat, x = (j : Int) ∧ j < out.length := fun x hx => by
    rw [← hxs] at hx
    obtain ⟨j, _, e, rfl⟩ := mem_nodesB.1 hx
    exact ⟨j, rfl, hmb j e⟩
  have hlen : xs.length ≤ 64 := by rw [← hxs]; exact nodesB_length _ _
  have hlist := fun W hT => netList_any m hm W hT
  rw [hxs] at hlist ⊢
  have Hlist := Lib.hid hlist; have Hx := Lib.hid hx; have Hor := Lib.hid (orN_lt hb)
  clear hxs hx hlist hb hmb
  go_enter Tryd.func110, Tryd.ntmps110
  go_upto_region 1 with fail
  obtain ⟨W0, hW, c0, c1, c2, hb0, hs0⟩ : ∃ W0, w.alloc (.cells #[.int .u64 (a : Int), .slice B by_.length cb, .slice O out.length co] 97) = W0 ∧ W0.cell? ⟨w.heap.size, 0, none⟩ = some (.int .u64 (a : Int)) ∧ W0.cell? ⟨w.heap.size, 1, none⟩ = some (.slice B by_.length cb) ∧ W0.cell? ⟨w.heap.size, 2, none⟩ = some (.slice O out.length co) ∧ Below w.heap.size w W0 ∧ w.heap.size < W0.heap.size :=
    ⟨_, rfl, (Blk.new w _ _).cell 0, (Blk.new w _ _).cell 1, (Blk.new w _ _).cell 2, (Below.refl _ _).alloc (Nat.le_refl _) _, by simp⟩
  rw [hW]
  have hr0 := hr.below hb0
  have hT0 := hT.below hb0
  clear hW hr hT
  go_wp2_with fail
  refine (Hlist.out W0 hT0).mono ?_
  rintro e w1 ⟨A', c', rfl, _, hri, _, hb1⟩
  have c1 := (hb1.cell (lt_of_cell c1)).trans c1
  have c2 := (hb1.cell (lt_of_cell c2)).trans c2
  have hr1 := hr0.below hb1
  have Hb := Lib.hid (endB hb0 hb1)
  clear hr0 hT0 hb0 hb1 c0
  go_wp2_with fail
  go_loop [5, 11] (fun v i => ∃ k : Nat, k ≤ xs.length ∧ v = .int .u64 ((orN out (xs.take k) : Nat) : Int) ∧ i = .int .i64 k) (fun v i => xs.length - (intOf i).toNat)
  case atStart => exact ⟨0, by omega, by simp [orN], rfl⟩
  case round =>
    obtain ⟨k, hk, rfl, rfl⟩ := hrel
    have hz := Hor.out (xs.take k)
    generalize hzz : orN out (xs.take k) = z at hz ⊢
    have Hz := Lib.hid hzz; have Hzl := Lib.hid hz
    clear hzz hz
    by_cases hlt : k < xs.length
    · obtain ⟨b, o, rfl, hc⟩ := hri.at_ hlt
      obtain ⟨j, hj, hjl⟩ := Hx.out xs[k] (List.getElem_mem _)
      obtain ⟨b2, o2, rfl, hc2⟩ := hr1 j hjl
      rw [hj] at hc
      have hj1 : (j : Int) < (out.length : Int) := by omega
      have Hj := Lib.hid hj
      clear hj
      go_wp2
      go_round
      case rel =>
        refine ⟨k + 1, by omega, ?_, by go_num⟩
        have e9 : out[j] = out.getD j 0 := by rw [List.getD_eq_getElem?_getD, List.getElem?_eq_getElem hjl]; rfl
        have hv : out.getD j 0 < 18446744073709551616 := by have := Hor.out [(j : Int)]; simpa [orN] using this
        rw [e9, u64_or_nat _ _ Hzl.out hv, List.take_succ_eq_append_getElem hlt, orN_snoc, Hz.out, Hj.out]
        rfl
      case measure => simp [intOf]; omega
    · go_wp2
      go_ret
      refine ⟨?_, Hb.out⟩
      rw [← Hz.out, List.take_of_length_le (by omega)]
      rfl
set_option maxRecDepth 100000 in
set_option maxHeartbeats 2000000 in
theorem netFoe_any (a m : Nat) (B : Option Addr) (by_ : List Nat) (cb : Nat) (O : Option Addr) (out : List Nat) (co : Nat) (w : World) (hT : Tab w) (hm : m < 18446744073709551616) (hmb : ∀ j, m.testBit j = true → j < by_.length) (hr : RU w B by_) (hb : ∀ x ∈ by_, x < 18446744073709551616) :
    Calls Tryd.prog 118 #[.agg #[.int .u64 (a : Int), .slice B by_.length cb, .slice O out.length co], .int .u64 (m : Int)] w (RetB (.int .u64 ((orN by_ (nodesB 64 m.testBit) : Nat) : Int)) w) := by
  obtain ⟨xs, hxs⟩ : ∃ xs, nodesB 64 m.testBit = xs := ⟨_, rfl⟩
  have hx : ∀ x ∈ xs, ∃ j : Nat, x = (j : Int) ∧ j < by_.length := fun x hx => by
    rw [← hxs] at hx
    obtain ⟨j, _, e, rfl⟩ := mem_nodesB.1 hx
    exact ⟨j, rfl, hmb j e⟩
  have hlen : xs.length ≤ 64 := by rw [← hxs]; exact nodesB_length _ _
  have hlist := fun W hT => netList_any m hm W hT
  rw [hxs] at hlist ⊢
  have Hlist := Lib.hid hlist; have Hx := Lib.hid hx; have Hor := Lib.hid (orN_lt hb)
  clear hxs hx hlist hb hmb
  go_enter Tryd.func118, Tryd.ntmps118
  go_upto_region 1 with fail
  obtain ⟨W0, hW, c0, c1, c2, hb0, hs0⟩ : ∃ W0, w.alloc (.cells #[.int .u64 (a : Int), .slice B by_.length cb, .slice O out.length co] 97) = W0 ∧ W0.cell? ⟨w.heap.size, 0, none⟩ = some (.int .u64 (a : Int)) ∧ W0.cell? ⟨w.heap.size, 1, none⟩ = some (.slice B by_.length cb) ∧ W0.cell? ⟨w.heap.size, 2, none⟩ = some (.slice O out.length co) ∧ Below w.heap.size w W0 ∧ w.heap.size < W0.heap.size :=
    ⟨_, rfl, (Blk.new w _ _).cell 0, (Blk.new w _ _).cell 1, (Blk.new w _ _).cell 2, (Below.refl _ _).alloc (Nat.le_refl _) _, by simp⟩
  rw [hW]
  have hr0 := hr.below hb0
  have hT0 := hT.below hb0
  clear hW hr hT
  go_wp2_with fail
  refine (Hlist.out W0 hT0).mono ?_
  rintro e w1 ⟨A', c', rfl, _, hri, _, hb1⟩
  have c1 := (hb1.cell (lt_of_cell c1)).trans c1
  have c2 := (hb1.cell (lt_of_cell c2)).trans c2
  have hr1 := hr0.below hb1
  have Hb := Lib.hid (endB hb0 hb1)
  clear hr0 hT0 hb0 hb1 c0
  go_wp2_with fail
  go_loop [5, 11] (fun v i => ∃ k : Nat, k ≤ xs.length ∧ v = .int .u64 ((orN by_ (xs.take k) : Nat) : Int) ∧ i = .int .i64 k) (fun v i => xs.length - (intOf i).toNat)
  case atStart => exact ⟨0, by omega, by simp [orN], rfl⟩
  case round =>
    obtain ⟨k, hk, rfl, rfl⟩ := hrel
    have hz := Hor.out (xs.take k)
    generalize hzz : orN by_ (xs.take k) = z at hz ⊢
    have Hz := Lib.hid hzz; have Hzl := Lib.hid hz
    clear hzz hz
    by_cases hlt : k < xs.length
    · obtain ⟨b, o, rfl, hc⟩ := hri.at_ hlt
      obtain ⟨j, hj, hjl⟩ := Hx.out xs[k] (List.getElem_mem _)
      obtain ⟨b2, o2, rfl, hc2⟩ := hr1 j hjl
      rw [hj] at hc
      have hj1 : (j : Int) < (by_.length : Int) := by omega
      have Hj := Lib.hid hj
      clear hj
      go_wp2
      go_round
      case rel =>
        refine ⟨k + 1, by omega, ?_, by go_num⟩
        have e9 : by_[j] = by_.getD j 0 := by rw [List.getD_eq_getElem?_getD, List.getElem?_eq_getElem hjl]; rfl
        have hv : by_.getD j 0 < 18446744073709551616 := by have := Hor.out [(j : Int)]; simpa [orN] using this
        rw [e9, u64_or_nat _ _ Hzl.out hv, List.take_succ_eq_append_getElem hlt, orN_snoc, Hz.out, Hj.out]
        rfl
      case measure => simp [intOf]; omega
    · go_wp2
      go_ret
      refine ⟨?_, Hb.out⟩
      rw [← Hz.out, List.take_of_length_le (by omega)]
      rfl
set_option maxRecDepth 100000 in
set_option maxHeartbeats 2000000 in
theorem netFree_any (a m : Nat) (B : Option Addr) (by_ : List Nat) (cb : Nat) (O : Option Addr) (out : List Nat) (co : Nat) (w : World) (hT : Tab w) (hm : m < 18446744073709551616) (hmb : ∀ j, m.testBit j = true → j < out.length) (hr : RU w O out) (hb : ∀ x ∈ out, x < 18446744073709551616) :
    Calls Tryd.prog 117 #[.agg #[.int .u64 (a : Int), .slice B by_.length cb, .slice O out.length co], .int .u64 (m : Int)] w (RetB (.bool (decide (orN out (nodesB 64 m.testBit) &&& m = 0))) w) := by
  obtain ⟨h, hh⟩ : ∃ h, orN out (nodesB 64 m.testBit) = h := ⟨_, rfl⟩
  have hlt : h < 18446744073709551616 := by rw [← hh]; exact orN_lt hb _
  have hhit := fun W hT hr => netHit_any a m B by_ cb O out co W hT hm hmb hr hb
  rw [hh] at hhit ⊢
  have e2 := u64_and_nat h m hlt hm
  have e3 : (((h &&& m : Nat) : Int) == 0) = decide (h &&& m = 0) := by
    by_cases e : h &&& m = 0
    · rw [e]; rfl
    · rw [decide_eq_false e, beq_eq_false_iff_ne]; omega
  obtain ⟨b, hbb⟩ : ∃ b, decide (h &&& m = 0) = b := ⟨_, rfl⟩
  rw [hbb] at e3 ⊢
  have Hhit := Lib.hid hhit; have E2 := Lib.hid e2; have E3 := Lib.hid e3
  clear hh hlt hhit e2 e3 hbb hm hmb hb
  go_enter Tryd.func117, Tryd.ntmps117
  go_upto_region 1 with fail
  obtain ⟨W0, hW, c0, c1, c2, hb0⟩ : ∃ W0, w.alloc (.cells #[.int .u64 (a : Int), .slice B by_.length cb, .slice O out.length co] 97) = W0 ∧ W0.cell? ⟨w.heap.size, 0, none⟩ = some (.int .u64 (a : Int)) ∧ W0.cell? ⟨w.heap.size, 1, none⟩ = some (.slice B by_.length cb) ∧ W0.cell? ⟨w.heap.size, 2, none⟩ = some (.slice O out.length co) ∧ Below w.heap.size w W0 :=
    ⟨_, rfl, (Blk.new w _ _).cell 0, (Blk.new w _ _).cell 1, (Blk.new w _ _).cell 2, (Below.refl _ _).alloc (Nat.le_refl _) _⟩
  rw [hW]
  have hr0 := hr.below hb0
  have hT0 := hT.below hb0
  clear hW hr hT
  go_wp2_with fail
  refine (Hhit.out W0 hT0 hr0).mono ?_
  rintro e w1 ⟨rfl, hb1⟩
  have Hb := Lib.hid (endB hb0 hb1)
  clear hr0 hT0 hb0 hb1 c0 c1 c2
  go_wp2_with fail
  go_ret
  refine ⟨?_, Hb.out⟩
  rw [E2.out, E3.out]
  rfl
set_option maxRecDepth 100000 in
set_option maxHeartbeats 2000000 in
theorem gFirst_any (m : Nat) (w : World) (hT : Tab w) (hm : m < 18446744073709551616) (h0 : 0 < (nodesB 64 m.testBit).length) :
    Calls Tryd.prog 80 #[.int .u64 (m : Int)] w (RetB (.int .i64 ((nodesB 64 m.testBit).getD 0 0)) w) := by
  have hlist := netList_any m hm w hT
  generalize nodesB 64 m.testBit = xs at *
  have Hlist := Lib.hid hlist
  have hpos : (0 : Int) < (xs.length : Int) := by omega
  clear hlist hm
  go_enter Tryd.func80, Tryd.ntmps80
  go_wp2_with fail
  refine Hlist.out.mono ?_
  rintro e w1 ⟨A', c', rfl, _, hri, _, hb1⟩
  obtain ⟨b, o, rfl, hc⟩ := hri 0 h0
  rw [Nat.add_zero] at hc
  obtain ⟨x, hx⟩ : ∃ x, xs.getD 0 0 = x := ⟨_, rfl⟩
  rw [hx] at hc
  have Hx := Lib.hid hx
  clear hx
  have Hb := Lib.hid hb1
  clear hb1 hri
  go_wp2_with fail
  go_ret
  rw [Hx.out]
  exact ⟨rfl, Hb.out⟩
end Go.Proofs.YtncimnfhfomddaaDoor

/- Package network: what the rows of sets say of the attacks. -/
namespace Go.Proofs.YtncimnfhfomddaaDoor
open Go.ChangeShapes Go.WideShapes Go.ChangeAt Go.RowKit

/-- whether a attacks b -/
def attQ (l : List (Int × Int)) (a b : Nat) : Bool := decide (att l a b)
theorem attQ_iff {l : List (Int × Int)} {a b : Nat} : attQ l a b = true ↔ att l a b := decide_eq_true_iff
def flipL (l : List (Int × Int)) : List (Int × Int) := l.map swapP
theorem att_flip {l : List (Int × Int)} {a b : Nat} : att (flipL l) a b ↔ att l b a := by
  unfold att flipL
  rw [List.mem_map]
  constructor
  · rintro ⟨⟨x, y⟩, h, e⟩
    unfold swapP at e
    injection e with e1 e2
    simp only at e1 e2
    subst e1; subst e2
    exact h
  · intro h; exact ⟨_, h, rfl⟩
theorem inR_flip {n : Nat} {l : List (Int × Int)} (h : InR n l) : InR n (flipL l) := by
  refine ⟨h.1, by unfold flipL; rw [List.length_map]; exact h.2.1, fun p hp => ?_⟩
  obtain ⟨q, hq, rfl⟩ := List.mem_map.1 hp
  have := h.2.2 q hq
  exact ⟨this.2.2.1, this.2.2.2, this.1, this.2.1⟩
theorem flip_take (l : List (Int × Int)) (k : Nat) : flipL (l.take k) = (flipL l).take k := by unfold flipL; rw [List.map_take]
def outL (n : Nat) (l : List (Int × Int)) : List Nat := (List.range n).map (mkM l)
def byL (n : Nat) (l : List (Int × Int)) : List Nat := (List.range n).map (mkM (flipL l))
theorem outL_length (n : Nat) (l : List (Int × Int)) : (outL n l).length = n := by simp [outL]
theorem byL_length (n : Nat) (l : List (Int × Int)) : (byL n l).length = n := by simp [byL]
theorem outL_at {n : Nat} {l : List (Int × Int)} {i : Nat} (h : i < n) : (outL n l).getD i 0 = mkM l i := by simp [outL, List.getD_eq_getElem?_getD, h]
theorem byL_at {n : Nat} {l : List (Int × Int)} {i : Nat} (h : i < n) : (byL n l).getD i 0 = mkM (flipL l) i := by simp [byL, List.getD_eq_getElem?_getD, h]
theorem mk_pow {n : Nat} {l : List (Int × Int)} (hv : InR n l) (i : Nat) : mkM l i < 2 ^ n := mkM_lt (fun p hp => by have := hv.2.2 p hp; omega) i
theorem outL_lt {n : Nat} {l : List (Int × Int)} (hv : InR n l) : ∀ x ∈ outL n l, x < 18446744073709551616 := fun x hx => by
  obtain ⟨i, _, rfl⟩ := List.mem_map.1 hx
  exact u64_of hv.1 (mk_pow hv i)
theorem byL_lt {n : Nat} {l : List (Int × Int)} (hv : InR n l) : ∀ x ∈ byL n l, x < 18446744073709551616 := fun x hx => by
  obtain ⟨i, _, rfl⟩ := List.mem_map.1 hx
  exact u64_of hv.1 (mk_pow (inR_flip hv) i)
theorem bit_orN (L : List Nat) (xs : List Int) (j : Nat) : (orN L xs).testBit j = xs.any fun x => (L.getD x.toNat 0).testBit j := by
  suffices h : ∀ z, (xs.foldl (fun z (x : Int) => z ||| L.getD x.toNat 0) z).testBit j = (z.testBit j || xs.any fun x => (L.getD x.toNat 0).testBit j) by
    have := h 0; simpa [orN] using this
  induction xs with
  | nil => intro z; simp
  | cons x r ih => intro z; rw [List.foldl_cons, List.any_cons, ih, Nat.testBit_or, Bool.or_assoc]
theorem bit_lt {n s i : Nat} (hs : s < 2 ^ n) (h : s.testBit i = true) : i < n := has_lt hs h
theorem hit_bit {n : Nat} {l : List (Int × Int)} (hv : InR n l) {s : Nat} (hs : s < 2 ^ n) (j : Nat) : (orN (outL n l) (nodesB 64 s.testBit)).testBit j = hitX n (attQ l) s j := by
  rw [bit_orN, Bool.eq_iff_iff, List.any_eq_true, hitX_iff]
  constructor
  · rintro ⟨x, hx, h⟩
    obtain ⟨i, _, e, rfl⟩ := mem_nodesB.1 hx
    have hi := bit_lt hs e
    rw [Int.toNat_natCast, outL_at hi] at h
    exact ⟨i, hi, e, attQ_iff.2 ((has_mkM hv i j).1 h)⟩
  · rintro ⟨i, hi, e, h⟩
    have := hv.1
    refine ⟨i, mem_nodesB.2 ⟨i, by omega, e, rfl⟩, ?_⟩
    rw [Int.toNat_natCast, outL_at hi]
    exact (has_mkM hv i j).2 (attQ_iff.1 h)
theorem foe_bit {n : Nat} {l : List (Int × Int)} (hv : InR n l) {s : Nat} (hs : s < 2 ^ n) (j : Nat) : (orN (byL n l) (nodesB 64 s.testBit)).testBit j = foeS n (attQ l) s j := by
  rw [bit_orN, Bool.eq_iff_iff, List.any_eq_true, foeS_iff]
  constructor
  · rintro ⟨x, hx, h⟩
    obtain ⟨i, _, e, rfl⟩ := mem_nodesB.1 hx
    have hi := bit_lt hs e
    rw [Int.toNat_natCast, byL_at hi] at h
    exact ⟨i, hi, e, attQ_iff.2 (att_flip.1 ((has_mkM (inR_flip hv) i j).1 h))⟩
  · rintro ⟨i, hi, e, h⟩
    have := hv.1
    refine ⟨i, mem_nodesB.2 ⟨i, by omega, e, rfl⟩, ?_⟩
    rw [Int.toNat_natCast, byL_at hi]
    exact (has_mkM (inR_flip hv) i j).2 (att_flip.2 (attQ_iff.1 h))
theorem and_zero {a b : Nat} : a &&& b = 0 ↔ ∀ j, a.testBit j = true → b.testBit j = false := by
  constructor
  · intro h j ha
    have : (a &&& b).testBit j = false := by rw [h, Nat.zero_testBit]
    rw [Nat.testBit_and, ha, Bool.true_and] at this
    exact this
  · intro h
    apply Nat.eq_of_testBit_eq
    intro j
    rw [Nat.testBit_and, Nat.zero_testBit]
    cases e : a.testBit j
    · rfl
    · rw [h j e]; rfl
theorem free_bit {n : Nat} {l : List (Int × Int)} (hv : InR n l) {s : Nat} (hs : s < 2 ^ n) : decide (orN (outL n l) (nodesB 64 s.testBit) &&& s = 0) = freeS n (attQ l) s := by
  rw [Bool.eq_iff_iff, decide_eq_true_iff, and_zero]
  unfold freeS
  rw [List.all_eq_true]
  constructor
  · intro h j hj
    rw [Bool.not_eq_true', ← hit_bit hv hs]
    cases e : (orN (outL n l) (nodesB 64 s.testBit)).testBit j
    · rw [Bool.and_false]
    · rw [h j e]; rfl
  · intro h j e
    cases sj : s.testBit j
    · rfl
    · have := h j (List.mem_range.2 (bit_lt hs sj))
      rw [← hit_bit hv hs, e, sj] at this
      cases this
theorem nodes_filter {n : Nat} (hn : n ≤ 64) {p q : Nat → Bool} (h1 : ∀ j, j < n → p j = q j) (h2 : ∀ j, n ≤ j → p j = false) : nodesB 64 p = ((List.range n).filter q).map Int.ofNat := by
  rw [nodesB_more hn h2, nodesB_congr h1]; rfl
theorem foe_lt {n : Nat} {l : List (Int × Int)} (hv : InR n l) {s j : Nat} (h : foeS n (attQ l) s j = true) : j < n := by
  obtain ⟨i, _, _, e⟩ := foeS_iff.1 h
  exact (att_lt hv (attQ_iff.1 e)).1
theorem orN_lt64 {n : Nat} {l : List (Int × Int)} (hv : InR n l) (s : Nat) : orN (outL n l) (nodesB 64 s.testBit) < 18446744073709551616 ∧ orN (byL n l) (nodesB 64 s.testBit) < 18446744073709551616 := ⟨orN_lt (outL_lt hv) _, orN_lt (byL_lt hv) _⟩
theorem open_bit {n : Nat} {l : List (Int × Int)} (hv : InR n l) {s : Nat} (hs : s < 2 ^ n) : nodesB 64 (minusN (orN (byL n l) (nodesB 64 s.testBit)) (orN (outL n l) (nodesB 64 s.testBit))).testBit = (openS n (attQ l) s).map Int.ofNat := by
  have hb := orN_lt64 hv s
  have e : ∀ j, (minusN (orN (byL n l) (nodesB 64 s.testBit)) (orN (outL n l) (nodesB 64 s.testBit))).testBit j = (foeS n (attQ l) s j && !hitX n (attQ l) s j) := fun j => by
    rw [testBit_minusN _ _ j hb.1 hb.2, foe_bit hv hs, hit_bit hv hs]
  refine nodes_filter (by have := hv.1; omega) (fun j _ => e j) fun j hj => ?_
  rw [e]
  cases h : foeS n (attQ l) s j
  · rfl
  · have := foe_lt hv h; omega
theorem by_bit {n : Nat} {l : List (Int × Int)} (hv : InR n l) {x : Nat} (hx : x < n) : nodesB 64 ((byL n l).getD x 0).testBit = ((List.range n).filter fun y => attQ l y x).map Int.ofNat := by
  have e : ∀ j, ((byL n l).getD x 0).testBit j = attQ l j x := fun j => by
    rw [byL_at hx, Bool.eq_iff_iff, attQ_iff]
    exact (has_mkM (inR_flip hv) x j).trans att_flip
  refine nodes_filter (by have := hv.1; omega) (fun j _ => e j) fun j hj => ?_
  rw [e]
  cases h : attQ l j x
  · rfl
  · have := (att_lt hv (attQ_iff.1 h)).1; omega
theorem pick_bit {n : Nat} {l : List (Int × Int)} (hv : InR n l) {s x : Nat} (hx : x < n) : nodesB 64 ((byL n l).getD x 0 &&& s).testBit = ((List.range n).filter fun y => attQ l y x && s.testBit y).map Int.ofNat := by
  have e : ∀ j, ((byL n l).getD x 0 &&& s).testBit j = (attQ l j x && s.testBit j) := fun j => by
    rw [Nat.testBit_and, byL_at hx]
    congr 1
    rw [Bool.eq_iff_iff, attQ_iff]
    exact (has_mkM (inR_flip hv) x j).trans att_flip
  refine nodes_filter (by have := hv.1; omega) (fun j _ => e j) fun j hj => ?_
  rw [e]
  cases h : attQ l j x
  · rfl
  · have := (att_lt hv (attQ_iff.1 h)).1; omega
theorem firstOf (l : List Nat) : (l.map Int.ofNat).getD 0 0 = ((l.headD 0 : Nat) : Int) := by cases l <;> rfl
theorem with_lt {n s y : Nat} (hs : s < 2 ^ n) (hy : y < n) : s ||| 1 <<< y < 2 ^ n := Nat.or_lt_two_pow hs (by rw [Nat.one_shiftLeft]; exact Nat.pow_lt_pow_right (by omega) hy)
theorem srS_lt {n : Nat} {at_ : Nat → Nat → Bool} : ∀ {k s r : Nat}, s < 2 ^ n → srS n at_ k s = some r → r < 2 ^ n
  | 0, _, _, _, h => by cases h
  | k + 1, s, r, hs, h => by
    unfold srS at h
    by_cases hf : freeS n at_ s = true
    · rw [if_pos hf] at h
      cases ho : openS n at_ s with
      | nil => rw [ho] at h; injection h with h; subst h; exact hs
      | cons x t =>
        rw [ho] at h
        obtain ⟨y, hy, e⟩ := firstSome_some h
        rw [List.mem_filter, List.mem_range] at hy
        exact srS_lt (with_lt hs hy.1) e
    · rw [if_neg hf] at h; cases h
end Go.Proofs.YtncimnfhfomddaaDoor

/- Package network: New. Printed by gen_net4.py. -/
namespace Go.Proofs.YtncimnfhfomddaaDoor
open Go.ChangeShapes Go.WideShapes Go.ChangeAt Go.RowKit

theorem info_set : (Tryd.prog.info? 93).map (fun i => (i.zero, i.size, i.bytes)) = some (some (.int .u64 0), 1, 8) := by kernel_rfl
/-- which of the three blocks are there -/
structure JN (B n : Nat) (a b c : Option Nat) (w : World) : Prop where
  fa : ∀ g, a = some g → B ≤ g ∧ w.rowIs g 93 n (fun _ => .int .u64 0)
  fb : ∀ g, b = some g → B ≤ g ∧ w.rowIs g 93 n (fun _ => .int .u64 0)
  fc : ∀ g, c = some g → B ≤ g ∧ Blk w g 97 #[.int .u64 0, .slice none 0 0, .slice none 0 0]
  ab : ∀ x y, a = some x → b = some y → x ≠ y
  ac : ∀ x y, a = some x → c = some y → x ≠ y
  bc : ∀ x y, b = some x → c = some y → x ≠ y
/-- the net while its rows grow: all has the bits below i, the rows those of the first k attacks -/
structure NwS (n : Nat) (l : List (Int × Int)) (B p gB gO i k k2 : Nat) (w : World) : Prop where
  hd : Blk w p 97 #[.int .u64 ((allN i : Nat) : Int), .slice (some ⟨gB, 0, none⟩) n n, .slice (some ⟨gO, 0, none⟩) n n]
  rb : w.rowIs gB 93 n (fun j => .int .u64 ((mkM (flipL (l.take k)) j : Nat) : Int))
  ro : w.rowIs gO 93 n (fun j => .int .u64 ((mkM (l.take k2) j : Nat) : Int))
  hp : B ≤ p
  hB : B ≤ gB
  hO : B ≤ gO
  pB : p ≠ gB
  pO : p ≠ gO
  bo : gB ≠ gO
section
variable {B n : Nat} {a b c : Option Nat} {w : World}
theorem JN.start : JN B n none none none w := ⟨fun _ h => (by cases h), fun _ h => (by cases h), fun _ h => (by cases h), fun _ _ h => (by cases h), fun _ _ h => (by cases h), fun _ _ h => (by cases h)⟩
theorem JN.mB (h : JN B n none b c w) (hB : B ≤ w.heap.size) : JN B n (some w.heap.size) b c (w.alloc (.cells (madeCells #[.int .u64 0] n) 93)) :=
  ⟨fun q e => by injection e with e; subst e; exact ⟨hB, World.rowIs_made _ _ _ _⟩, fun q e => ⟨(h.fb q e).1, World.rowIs.alloc (h.fb q e).2 _⟩, fun q e => ⟨(h.fc q e).1, (h.fc q e).2.alloc _⟩,
   fun x y e1 e2 => by injection e1 with e1; have := World.rowIs.lt (h.fb y e2).2; omega, fun x y e1 e2 => by injection e1 with e1; have := (h.fc y e2).2.lt; omega, h.bc⟩
theorem JN.mO (h : JN B n a none c w) (hB : B ≤ w.heap.size) : JN B n a (some w.heap.size) c (w.alloc (.cells (madeCells #[.int .u64 0] n) 93)) :=
  ⟨fun q e => ⟨(h.fa q e).1, World.rowIs.alloc (h.fa q e).2 _⟩, fun q e => by injection e with e; subst e; exact ⟨hB, World.rowIs_made _ _ _ _⟩, fun q e => ⟨(h.fc q e).1, (h.fc q e).2.alloc _⟩,
   fun x y e1 e2 => by injection e2 with e2; have := World.rowIs.lt (h.fa x e1).2; omega, h.ac, fun x y e1 e2 => by injection e1 with e1; have := (h.fc y e2).2.lt; omega⟩
theorem JN.mP (h : JN B n a b none w) (hB : B ≤ w.heap.size) : JN B n a b (some w.heap.size) (w.alloc (.cells #[.int .u64 0, .slice none 0 0, .slice none 0 0] 97)) :=
  ⟨fun q e => ⟨(h.fa q e).1, World.rowIs.alloc (h.fa q e).2 _⟩, fun q e => ⟨(h.fb q e).1, World.rowIs.alloc (h.fb q e).2 _⟩, fun q e => by injection e with e; subst e; exact ⟨hB, Blk.new _ _ _⟩,
   h.ab, fun x y e1 e2 => by injection e2 with e2; have := World.rowIs.lt (h.fa x e1).2; omega, fun x y e1 e2 => by injection e2 with e2; have := World.rowIs.lt (h.fb x e1).2; omega⟩
theorem JN.fin {l : List (Int × Int)} {gB gO p : Nat} (h : JN B n (some gB) (some gO) (some p) w) :
    NwS n l B p gB gO 0 0 0 (((w.setCell ⟨p, 0, none⟩ (.int .u64 0)).setCell ⟨p, 1, none⟩ (.slice (some ⟨gB, 0, none⟩) n n)).setCell ⟨p, 2, none⟩ (.slice (some ⟨gO, 0, none⟩) n n)) := by
  have e1 := h.ac _ _ rfl rfl; have e2 := h.bc _ _ rfl rfl
  exact {
    hd := (((h.fc p rfl).2.set_ 0 _).set_ 1 _).set_ 2 _
    rb := ((World.rowIs.setOther (World.rowIs.setOther (World.rowIs.setOther (h.fa gB rfl).2 e1 _) e1 _) e1 _)).congr fun _ _ => rfl
    ro := ((World.rowIs.setOther (World.rowIs.setOther (World.rowIs.setOther (h.fb gO rfl).2 e2 _) e2 _) e2 _)).congr fun _ _ => rfl
    hp := (h.fc p rfl).1, hB := (h.fa gB rfl).1, hO := (h.fb gO rfl).1, pB := e1.symm, pO := e2.symm, bo := h.ab _ _ rfl rfl }
variable {l : List (Int × Int)} {p gB gO i k k2 : Nat} {w' : World}
theorem NwS.below (h : NwS n l B p gB gO i k k2 w) (hb : Below w.heap.size w w') : NwS n l B p gB gO i k k2 w' :=
  { h with hd := h.hd.below hb h.hd.lt, rb := rowIs_new h.rb hb, ro := rowIs_new h.ro hb }
theorem NwS.drew (h : NwS n l B p gB gO i k k2 w) : NwS n l B p gB gO i k k2 w.drew := h.below (Below.refl _ _).drew
theorem NwS.all (h : NwS n l B p gB gO i k k2 w) (i' : Nat) : NwS n l B p gB gO i' k k2 (w.setCell ⟨p, 0, none⟩ (.int .u64 ((allN i' : Nat) : Int))) :=
  { h with hd := h.hd.set_ 0 _, rb := World.rowIs.setOther h.rb h.pB.symm _, ro := World.rowIs.setOther h.ro h.pO.symm _ }
theorem allN_with (i : Nat) : allN i ||| 1 <<< i = allN (i + 1) := by
  apply Nat.eq_of_testBit_eq
  intro j
  rw [bit_with, testBit_allN, testBit_allN, Bool.eq_iff_iff, Bool.or_eq_true, decide_eq_true_iff, decide_eq_true_iff, decide_eq_true_iff]
  omega
end
theorem mk_step {l : List (Int × Int)} {k : Nat} (h : k < l.length) {a z : Nat} (e : l[k] = ((a : Int), (z : Int))) (i : Nat) : mkM (l.take (k + 1)) i = if i = a then mkM (l.take k) a ||| 1 <<< z else mkM (l.take k) i := by
  rw [List.take_succ_eq_append_getElem h, mkM_snoc, e]
  by_cases c : i = a
  · subst c; simp
  · rw [if_neg c, if_neg (fun h => c (by simpa using h.symm))]
theorem mkf_step {l : List (Int × Int)} {k : Nat} (h : k < l.length) {a z : Nat} (e : l[k] = ((a : Int), (z : Int))) (i : Nat) : mkM (flipL (l.take (k + 1))) i = if i = z then mkM (flipL (l.take k)) z ||| 1 <<< a else mkM (flipL (l.take k)) i := by
  rw [flip_take, flip_take]
  refine mk_step (by unfold flipL; rw [List.length_map]; exact h) ?_ i
  unfold flipL
  rw [List.getElem_map, e]; rfl
theorem NwS.setB {n : Nat} {l : List (Int × Int)} {B p gB gO i k k2 : Nat} {w : World} (h : NwS n l B p gB gO i k k2 w) (hk : k < l.length) {a z : Nat} (e : l[k] = ((a : Int), (z : Int))) :
    NwS n l B p gB gO i (k + 1) k2 (w.setCell ⟨gB, z, none⟩ (.int .u64 ((mkM (flipL (l.take k)) z ||| 1 <<< a : Nat) : Int))) :=
  { h with
    hd := h.hd.far h.pB _
    rb := (World.rowIs.set h.rb z _).congr fun j _ => by rw [mkf_step hk e]; split <;> rfl
    ro := World.rowIs.setOther h.ro h.bo.symm _ }
theorem NwS.setO {n : Nat} {l : List (Int × Int)} {B p gB gO i k k2 : Nat} {w : World} (h : NwS n l B p gB gO i k k2 w) (hk : k2 < l.length) {a z : Nat} (e : l[k2] = ((a : Int), (z : Int))) :
    NwS n l B p gB gO i k (k2 + 1) (w.setCell ⟨gO, a, none⟩ (.int .u64 ((mkM (l.take k2) a ||| 1 <<< z : Nat) : Int))) :=
  { h with
    hd := h.hd.far h.pO _
    rb := World.rowIs.setOther h.rb h.bo _
    ro := (World.rowIs.set h.ro a _).congr fun j _ => by rw [mk_step hk e]; split <;> rfl }
/-- the call returns a net in new memory -/
def RetNet (n : Nat) (l : List (Int × Int)) (w : World) : Ending → World → Prop := fun e w' => ∃ gB gO, e = .returned (.agg #[.int .u64 ((allN n : Nat) : Int), .slice (some ⟨gB, 0, none⟩) n n, .slice (some ⟨gO, 0, none⟩) n n]) ∧ w.heap.size ≤ gB ∧ w.heap.size ≤ gO ∧
  RU w' (some ⟨gB, 0, none⟩) (byL n l) ∧ RU w' (some ⟨gO, 0, none⟩) (outL n l) ∧ Below w.heap.size w w'
theorem RU.of_row {w : World} {g n : Nat} {f : Nat → Nat} (h : w.rowIs g 93 n (fun j => .int .u64 ((f j : Nat) : Int))) : RU w (some ⟨g, 0, none⟩) ((List.range n).map f) := fun k hk => by
  have hk' : k < n := by simpa using hk
  refine ⟨g, 0, rfl, ?_⟩
  rw [Nat.zero_add, World.rowIs.cell h hk']
  simp [List.getD_eq_getElem?_getD, hk']
theorem mk_u64 {n : Nat} {l : List (Int × Int)} (hv : InR n l) (k i : Nat) : mkM (l.take k) i < 18446744073709551616 := u64_of hv.1 (mkM_lt (n := n) (fun p hp => by have := hv.2.2 p (List.mem_of_mem_take hp); omega) i)
theorem mkf_u64 {n : Nat} {l : List (Int × Int)} (hv : InR n l) (k i : Nat) : mkM (flipL (l.take k)) i < 18446744073709551616 := by rw [flip_take]; exact mk_u64 (inR_flip hv) k i
theorem or_u64 {a z : Nat} (ha : a < 18446744073709551616) (hz : z < 64) : a ||| 1 <<< z < 18446744073709551616 := Nat.or_lt_two_pow (n := 64) ha (by rw [Nat.one_shiftLeft]; exact Nat.pow_lt_pow_right (by omega) hz)

set_option maxRecDepth 100000 in
set_option maxHeartbeats 4000000 in
theorem netNew_any (A : Option Addr) (n : Nat) (l0 : List (Int × Int)) (c : Nat) (w : World) (hr : RP w A l0) (hv : InR n l0) :
    Calls Tryd.prog 63 #[.agg #[.int .i64 (n : Int), .slice A l0.length c]] w (RetNet n l0 w) := by
  have hn := hv.1; have hlen := hv.2.1
  have hmk := run_make_row' (P := Tryd.prog) 95 93 (.int .u64 0) 8 Tryd.underlying95 info_set rfl .i64 .i64 n (by omega) (by omega)
  go_enter Tryd.func63, Tryd.ntmps63
  go_wp2_with fail
  obtain ⟨W0, hW, k0, k1, hb0, hlt0⟩ : ∃ W0, (w.alloc (.cells #[.int .i64 (n : Int), .slice A l0.length c] 24)).alloc (.cells #[.int .u64 0, .slice none 0 0, .slice none 0 0] 97) = W0 ∧ Blk W0 w.heap.size 24 #[.int .i64 (n : Int), .slice A l0.length c] ∧ Blk W0 (w.heap.size + 1) 97 #[.int .u64 0, .slice none 0 0, .slice none 0 0] ∧ Below w.heap.size w W0 ∧ W0.heap.size = w.heap.size + 2 :=
    ⟨_, rfl, (Blk.new _ _ _).alloc _, by have := Blk.new (w.alloc (.cells #[.int .i64 (n : Int), .slice A l0.length c] 24)) 97 #[.int .u64 0, .slice none 0 0, .slice none 0 0]; rw [World.size_alloc] at this; exact this, ((Below.refl _ _).alloc (Nat.le_refl _) _).alloc (by simp) _, by simp⟩
  rw [hW]
  have hr0 := hr.below hb0
  obtain ⟨d0, d1, _, _⟩ := k0.two
  have Hmk := Lib.hid hmk
  clear hW hmk
  go_upto_region 1 with fail
  go_cut [3] (fun s wx => ∃ p gB gO, s = Value.pointer (some ⟨p, 0, none⟩) ∧ NwS n l0 W0.heap.size p gB gO 0 0 0 wx ∧ Below W0.heap.size W0 wx)
  case first =>
    refine wp_region_tree [2, 5, 7, 8] (fun w' => Below W0.heap.size W0 w') (fun w' => JN W0.heap.size n none none none w') 9 [0, 1, 2, 3, 4, 5, 6, 7, 8] (by rfl) (by decide) (by kernel_rfl) (by kernel_rfl) (Below.refl _ _).drew JN.start ?_
    refine TxtT.pure 0 (by rfl) (by rw [List.getElem?_toArray]; rfl) (by rfl) (by as_aux_lemma => kernel_rfl) (by rfl) ?_; apply Exists.intro; refine ⟨fun w1 hS1 => ?_, ?_⟩; (focus (skip; go_simp; with_reducible rfl))
    rw [show List.erase [0, 1, 2, 3, 4, 5, 6, 7, 8] 0 = [1, 2, 3, 4, 5, 6, 7, 8] from rfl]; simp only [Act.put, List.setIfInBounds_toArray, List.set_cons_zero, List.set_cons_succ]
    refine TxtT.pure 1 (by rfl) (by rw [List.getElem?_toArray]; rfl) (by rfl) (by as_aux_lemma => kernel_rfl) (by rfl) ?_; apply Exists.intro; refine ⟨fun w1 hS1 => ?_, ?_⟩; (focus ((have g0 := (hS1.cell (lt_of_cell d0)).trans d0); go_simp; with_reducible rfl))
    rw [show List.erase [1, 2, 3, 4, 5, 6, 7, 8] 1 = [2, 3, 4, 5, 6, 7, 8] from rfl]; simp only [Act.put, List.setIfInBounds_toArray, List.set_cons_zero, List.set_cons_succ]
    refine TxtT.pure 3 (by rfl) (by rw [List.getElem?_toArray]; rfl) (by rfl) (by as_aux_lemma => kernel_rfl) (by rfl) ?_; apply Exists.intro; refine ⟨fun w1 hS1 => ?_, ?_⟩; (focus (skip; go_simp; with_reducible rfl))
    rw [show List.erase [2, 3, 4, 5, 6, 7, 8] 3 = [2, 4, 5, 6, 7, 8] from rfl]; simp only [Act.put, List.setIfInBounds_toArray, List.set_cons_zero, List.set_cons_succ]
    refine TxtT.pure 4 (by rfl) (by rw [List.getElem?_toArray]; rfl) (by rfl) (by as_aux_lemma => kernel_rfl) (by rfl) ?_; apply Exists.intro; refine ⟨fun w1 hS1 => ?_, ?_⟩; (focus ((have g0 := (hS1.cell (lt_of_cell d0)).trans d0); go_simp; with_reducible rfl))
    rw [show List.erase [2, 4, 5, 6, 7, 8] 4 = [2, 5, 6, 7, 8] from rfl]; simp only [Act.put, List.setIfInBounds_toArray, List.set_cons_zero, List.set_cons_succ]
    refine TxtT.three 2 5 7 (by as_aux_lemma => kernel_rfl) (by rw [List.getElem?_toArray]; rfl) (by rw [List.getElem?_toArray]; rfl) (by rw [List.getElem?_toArray]; rfl) (by rfl) (by rfl) (by rfl) (by rfl) (by rfl) (by rfl) (fun v => ∃ g, v = Value.slice (some ⟨g, 0, none⟩) n n) (fun v w' => ∃ g, v = Value.slice (some ⟨g, 0, none⟩) n n ∧ JN W0.heap.size n (some g) none none w') (fun v => ∃ g, v = Value.slice (some ⟨g, 0, none⟩) n n) (fun v w' => ∃ g, v = Value.slice (some ⟨g, 0, none⟩) n n ∧ JN W0.heap.size n none (some g) none w') (fun v => ∃ g, v = Value.pointer (some ⟨g, 0, none⟩)) (fun v w' => ∃ g, v = Value.pointer (some ⟨g, 0, none⟩) ∧ JN W0.heap.size n none none (some g) w') (fun w1 hS1 hJ1 => ?_) (fun w1 hS1 hJ1 => ?_) (fun w1 hS1 hJ1 => ?_) ?_ ?_ ?_
    · have hmk := Hmk.out
      exact Eff.value (w' := w1.alloc (.cells (madeCells #[.int .u64 0] n) 93)) (v := .slice (some ⟨w1.heap.size, 0, none⟩) n n) (by go_simp) ⟨hS1.trans ((newB w1 _).mono hS1.size), ⟨_, rfl⟩, _, rfl, hJ1.mB hS1.size⟩
    · have hmk := Hmk.out
      exact Eff.value (w' := w1.alloc (.cells (madeCells #[.int .u64 0] n) 93)) (v := .slice (some ⟨w1.heap.size, 0, none⟩) n n) (by go_simp) ⟨hS1.trans ((newB w1 _).mono hS1.size), ⟨_, rfl⟩, _, rfl, hJ1.mO hS1.size⟩
    · exact Eff.value (w' := w1.alloc (.cells #[.int .u64 0, .slice none 0 0, .slice none 0 0] 97)) (v := .pointer (some ⟨w1.heap.size, 0, none⟩)) (by go_simp) ⟨hS1.trans ((newB w1 _).mono hS1.size), ⟨_, rfl⟩, _, rfl, hJ1.mP hS1.size⟩
    ·
      rintro _ ⟨gB, rfl⟩
      rw [show List.erase [2, 5, 6, 7, 8] 2 = [5, 6, 7, 8] from rfl]; simp only [Act.put, List.setIfInBounds_toArray, List.set_cons_zero, List.set_cons_succ]
      refine TxtT.weakJ (J2 := (fun w' => JN W0.heap.size n (some gB) none none w')) (fun w1 h => by obtain ⟨g, hg, h⟩ := h; injection hg with hg; injection hg with hg; injection hg with hg _ _; subst hg; exact h) ?_
      refine TxtT.two 5 7 (by as_aux_lemma => kernel_rfl) (by rw [List.getElem?_toArray]; rfl) (by rw [List.getElem?_toArray]; rfl) (by rfl) (by rfl) (by rfl) (by rfl) (fun v => ∃ g, v = Value.slice (some ⟨g, 0, none⟩) n n) (fun v w' => ∃ g, v = Value.slice (some ⟨g, 0, none⟩) n n ∧ JN W0.heap.size n (some gB) (some g) none w') (fun v => ∃ g, v = Value.pointer (some ⟨g, 0, none⟩)) (fun v w' => ∃ g, v = Value.pointer (some ⟨g, 0, none⟩) ∧ JN W0.heap.size n (some gB) none (some g) w') (fun w1 hS1 hJ1 => ?_) (fun w1 hS1 hJ1 => ?_) ?_ ?_
      · have hmk := Hmk.out
        exact Eff.value (w' := w1.alloc (.cells (madeCells #[.int .u64 0] n) 93)) (v := .slice (some ⟨w1.heap.size, 0, none⟩) n n) (by go_simp) ⟨hS1.trans ((newB w1 _).mono hS1.size), ⟨_, rfl⟩, _, rfl, hJ1.mO hS1.size⟩
      · exact Eff.value (w' := w1.alloc (.cells #[.int .u64 0, .slice none 0 0, .slice none 0 0] 97)) (v := .pointer (some ⟨w1.heap.size, 0, none⟩)) (by go_simp) ⟨hS1.trans ((newB w1 _).mono hS1.size), ⟨_, rfl⟩, _, rfl, hJ1.mP hS1.size⟩
      ·
        rintro _ ⟨gO, rfl⟩
        rw [show List.erase [5, 6, 7, 8] 5 = [6, 7, 8] from rfl]; simp only [Act.put, List.setIfInBounds_toArray, List.set_cons_zero, List.set_cons_succ]
        refine TxtT.weakJ (J2 := (fun w' => JN W0.heap.size n (some gB) (some gO) none w')) (fun w1 h => by obtain ⟨g, hg, h⟩ := h; injection hg with hg; injection hg with hg; injection hg with hg _ _; subst hg; exact h) ?_
        refine TxtT.pure 6 (by rfl) (by rw [List.getElem?_toArray]; rfl) (by rfl) (by as_aux_lemma => kernel_rfl) (by rfl) ?_; apply Exists.intro; refine ⟨fun w1 hS1 => ?_, ?_⟩; (focus (skip; go_simp; with_reducible rfl))
        rw [show List.erase [6, 7, 8] 6 = [7, 8] from rfl]; simp only [Act.put, List.setIfInBounds_toArray, List.set_cons_zero, List.set_cons_succ]
        refine TxtT.one 7 (by as_aux_lemma => kernel_rfl) (by rw [List.getElem?_toArray]; rfl) (by rfl) (by rfl) (fun v => ∃ g, v = Value.pointer (some ⟨g, 0, none⟩)) (fun v w' => ∃ g, v = Value.pointer (some ⟨g, 0, none⟩) ∧ JN W0.heap.size n (some gB) (some gO) (some g) w') (fun w1 hS1 hJ1 => ?_) ?_
        · exact Eff.value (w' := w1.alloc (.cells #[.int .u64 0, .slice none 0 0, .slice none 0 0] 97)) (v := .pointer (some ⟨w1.heap.size, 0, none⟩)) (by go_simp) ⟨hS1.trans ((newB w1 _).mono hS1.size), ⟨_, rfl⟩, _, rfl, hJ1.mP hS1.size⟩
        rintro _ ⟨p, rfl⟩
        rw [show List.erase [7, 8] 7 = [8] from rfl]; simp only [Act.put, List.setIfInBounds_toArray, List.set_cons_zero, List.set_cons_succ]
        refine TxtT.weakJ (J2 := (fun w' => JN W0.heap.size n (some gB) (some gO) (some p) w')) (fun w1 h => by obtain ⟨g, hg, h⟩ := h; injection hg with hg; injection hg with hg; injection hg with hg _ _; subst hg; exact h) ?_
        refine TxtT.one 8 (by as_aux_lemma => kernel_rfl) (by rw [List.getElem?_toArray]; rfl) (by rfl) (by rfl) (fun _ => True) (fun _ w' => NwS n l0 W0.heap.size p gB gO 0 0 0 w') (fun w1 hS1 hJ1 => ?_) ?_
        · have z0 := (hJ1.fc p rfl).2.frozen 0; have z1 := (hJ1.fc p rfl).2.frozen 1; have z2 := (hJ1.fc p rfl).2.frozen 2
          have e0 : w1.cell? ⟨p, 0, none⟩ = some (.int .u64 0) := (hJ1.fc p rfl).2.cell 0; have e1 : w1.cell? ⟨p, 1, none⟩ = some (.slice none 0 0) := (hJ1.fc p rfl).2.cell 1; have e2 : w1.cell? ⟨p, 2, none⟩ = some (.slice none 0 0) := (hJ1.fc p rfl).2.cell 2
          have hpB := (hJ1.fc p rfl).1
          refine Eff.skip (w' := ((w1.setCell ⟨p, 0, none⟩ (.int .u64 0)).setCell ⟨p, 1, none⟩ (.slice (some ⟨gB, 0, none⟩) n n)).setCell ⟨p, 2, none⟩ (.slice (some ⟨gO, 0, none⟩) n n)) (by go_simp) ⟨((hS1.setCell (p := ⟨p, 0, none⟩) hpB _).setCell (p := ⟨p, 1, none⟩) hpB _).setCell (p := ⟨p, 2, none⟩) hpB _, trivial, hJ1.fin⟩
        rintro u -
        rw [show List.erase [8] 8 = [] from rfl]; simp only [Act.put]
        refine ⟨rfl, fun w1 hS1 hJ1 => ?_⟩
        go_wp2_with fail
        go_meet
        exact ⟨_, gB, gO, rfl, hJ1, hS1⟩
      ·
        rintro _ ⟨p, rfl⟩
        rw [show List.erase [5, 6, 7, 8] 7 = [5, 6, 8] from rfl]; simp only [Act.put, List.setIfInBounds_toArray, List.set_cons_zero, List.set_cons_succ]
        refine TxtT.weakJ (J2 := (fun w' => JN W0.heap.size n (some gB) none (some p) w')) (fun w1 h => by obtain ⟨g, hg, h⟩ := h; injection hg with hg; injection hg with hg; injection hg with hg _ _; subst hg; exact h) ?_
        refine TxtT.one 5 (by as_aux_lemma => kernel_rfl) (by rw [List.getElem?_toArray]; rfl) (by rfl) (by rfl) (fun v => ∃ g, v = Value.slice (some ⟨g, 0, none⟩) n n) (fun v w' => ∃ g, v = Value.slice (some ⟨g, 0, none⟩) n n ∧ JN W0.heap.size n (some gB) (some g) (some p) w') (fun w1 hS1 hJ1 => ?_) ?_
        · have hmk := Hmk.out
          exact Eff.value (w' := w1.alloc (.cells (madeCells #[.int .u64 0] n) 93)) (v := .slice (some ⟨w1.heap.size, 0, none⟩) n n) (by go_simp) ⟨hS1.trans ((newB w1 _).mono hS1.size), ⟨_, rfl⟩, _, rfl, hJ1.mO hS1.size⟩
        rintro _ ⟨gO, rfl⟩
        rw [show List.erase [5, 6, 8] 5 = [6, 8] from rfl]; simp only [Act.put, List.setIfInBounds_toArray, List.set_cons_zero, List.set_cons_succ]
        refine TxtT.weakJ (J2 := (fun w' => JN W0.heap.size n (some gB) (some gO) (some p) w')) (fun w1 h => by obtain ⟨g, hg, h⟩ := h; injection hg with hg; injection hg with hg; injection hg with hg _ _; subst hg; exact h) ?_
        refine TxtT.pure 6 (by rfl) (by rw [List.getElem?_toArray]; rfl) (by rfl) (by as_aux_lemma => kernel_rfl) (by rfl) ?_; apply Exists.intro; refine ⟨fun w1 hS1 => ?_, ?_⟩; (focus (skip; go_simp; with_reducible rfl))
        rw [show List.erase [6, 8] 6 = [8] from rfl]; simp only [Act.put, List.setIfInBounds_toArray, List.set_cons_zero, List.set_cons_succ]
        refine TxtT.one 8 (by as_aux_lemma => kernel_rfl) (by rw [List.getElem?_toArray]; rfl) (by rfl) (by rfl) (fun _ => True) (fun _ w' => NwS n l0 W0.heap.size p gB gO 0 0 0 w') (fun w1 hS1 hJ1 => ?_) ?_
        · have z0 := (hJ1.fc p rfl).2.frozen 0; have z1 := (hJ1.fc p rfl).2.frozen 1; have z2 := (hJ1.fc p rfl).2.frozen 2
          have e0 : w1.cell? ⟨p, 0, none⟩ = some (.int .u64 0) := (hJ1.fc p rfl).2.cell 0; have e1 : w1.cell? ⟨p, 1, none⟩ = some (.slice none 0 0) := (hJ1.fc p rfl).2.cell 1; have e2 : w1.cell? ⟨p, 2, none⟩ = some (.slice none 0 0) := (hJ1.fc p rfl).2.cell 2
          have hpB := (hJ1.fc p rfl).1
          refine Eff.skip (w' := ((w1.setCell ⟨p, 0, none⟩ (.int .u64 0)).setCell ⟨p, 1, none⟩ (.slice (some ⟨gB, 0, none⟩) n n)).setCell ⟨p, 2, none⟩ (.slice (some ⟨gO, 0, none⟩) n n)) (by go_simp) ⟨((hS1.setCell (p := ⟨p, 0, none⟩) hpB _).setCell (p := ⟨p, 1, none⟩) hpB _).setCell (p := ⟨p, 2, none⟩) hpB _, trivial, hJ1.fin⟩
        rintro u -
        rw [show List.erase [8] 8 = [] from rfl]; simp only [Act.put]
        refine ⟨rfl, fun w1 hS1 hJ1 => ?_⟩
        go_wp2_with fail
        go_meet
        exact ⟨_, gB, gO, rfl, hJ1, hS1⟩
    ·
      rintro _ ⟨gO, rfl⟩
      rw [show List.erase [2, 5, 6, 7, 8] 5 = [2, 6, 7, 8] from rfl]; simp only [Act.put, List.setIfInBounds_toArray, List.set_cons_zero, List.set_cons_succ]
      refine TxtT.weakJ (J2 := (fun w' => JN W0.heap.size n none (some gO) none w')) (fun w1 h => by obtain ⟨g, hg, h⟩ := h; injection hg with hg; injection hg with hg; injection hg with hg _ _; subst hg; exact h) ?_
      refine TxtT.two 2 7 (by as_aux_lemma => kernel_rfl) (by rw [List.getElem?_toArray]; rfl) (by rw [List.getElem?_toArray]; rfl) (by rfl) (by rfl) (by rfl) (by rfl) (fun v => ∃ g, v = Value.slice (some ⟨g, 0, none⟩) n n) (fun v w' => ∃ g, v = Value.slice (some ⟨g, 0, none⟩) n n ∧ JN W0.heap.size n (some g) (some gO) none w') (fun v => ∃ g, v = Value.pointer (some ⟨g, 0, none⟩)) (fun v w' => ∃ g, v = Value.pointer (some ⟨g, 0, none⟩) ∧ JN W0.heap.size n none (some gO) (some g) w') (fun w1 hS1 hJ1 => ?_) (fun w1 hS1 hJ1 => ?_) ?_ ?_
      · have hmk := Hmk.out
        exact Eff.value (w' := w1.alloc (.cells (madeCells #[.int .u64 0] n) 93)) (v := .slice (some ⟨w1.heap.size, 0, none⟩) n n) (by go_simp) ⟨hS1.trans ((newB w1 _).mono hS1.size), ⟨_, rfl⟩, _, rfl, hJ1.mB hS1.size⟩
      · exact Eff.value (w' := w1.alloc (.cells #[.int .u64 0, .slice none 0 0, .slice none 0 0] 97)) (v := .pointer (some ⟨w1.heap.size, 0, none⟩)) (by go_simp) ⟨hS1.trans ((newB w1 _).mono hS1.size), ⟨_, rfl⟩, _, rfl, hJ1.mP hS1.size⟩
      ·
        rintro _ ⟨gB, rfl⟩
        rw [show List.erase [2, 6, 7, 8] 2 = [6, 7, 8] from rfl]; simp only [Act.put, List.setIfInBounds_toArray, List.set_cons_zero, List.set_cons_succ]
        refine TxtT.weakJ (J2 := (fun w' => JN W0.heap.size n (some gB) (some gO) none w')) (fun w1 h => by obtain ⟨g, hg, h⟩ := h; injection hg with hg; injection hg with hg; injection hg with hg _ _; subst hg; exact h) ?_
        refine TxtT.pure 6 (by rfl) (by rw [List.getElem?_toArray]; rfl) (by rfl) (by as_aux_lemma => kernel_rfl) (by rfl) ?_; apply Exists.intro; refine ⟨fun w1 hS1 => ?_, ?_⟩; (focus (skip; go_simp; with_reducible rfl))
        rw [show List.erase [6, 7, 8] 6 = [7, 8] from rfl]; simp only [Act.put, List.setIfInBounds_toArray, List.set_cons_zero, List.set_cons_succ]
        refine TxtT.one 7 (by as_aux_lemma => kernel_rfl) (by rw [List.getElem?_toArray]; rfl) (by rfl) (by rfl) (fun v => ∃ g, v = Value.pointer (some ⟨g, 0, none⟩)) (fun v w' => ∃ g, v = Value.pointer (some ⟨g, 0, none⟩) ∧ JN W0.heap.size n (some gB) (some gO) (some g) w') (fun w1 hS1 hJ1 => ?_) ?_
        · exact Eff.value (w' := w1.alloc (.cells #[.int .u64 0, .slice none 0 0, .slice none 0 0] 97)) (v := .pointer (some ⟨w1.heap.size, 0, none⟩)) (by go_simp) ⟨hS1.trans ((newB w1 _).mono hS1.size), ⟨_, rfl⟩, _, rfl, hJ1.mP hS1.size⟩
        rintro _ ⟨p, rfl⟩
        rw [show List.erase [7, 8] 7 = [8] from rfl]; simp only [Act.put, List.setIfInBounds_toArray, List.set_cons_zero, List.set_cons_succ]
        refine TxtT.weakJ (J2 := (fun w' => JN W0.heap.size n (some gB) (some gO) (some p) w')) (fun w1 h => by obtain ⟨g, hg, h⟩ := h; injection hg with hg; injection hg with hg; injection hg with hg _ _; subst hg; exact h) ?_
        refine TxtT.one 8 (by as_aux_lemma => kernel_rfl) (by rw [List.getElem?_toArray]; rfl) (by rfl) (by rfl) (fun _ => True) (fun _ w' => NwS n l0 W0.heap.size p gB gO 0 0 0 w') (fun w1 hS1 hJ1 => ?_) ?_
        · have z0 := (hJ1.fc p rfl).2.frozen 0; have z1 := (hJ1.fc p rfl).2.frozen 1; have z2 := (hJ1.fc p rfl).2.frozen 2
          have e0 : w1.cell? ⟨p, 0, none⟩ = some (.int .u64 0) := (hJ1.fc p rfl).2.cell 0; have e1 : w1.cell? ⟨p, 1, none⟩ = some (.slice none 0 0) := (hJ1.fc p rfl).2.cell 1; have e2 : w1.cell? ⟨p, 2, none⟩ = some (.slice none 0 0) := (hJ1.fc p rfl).2.cell 2
          have hpB := (hJ1.fc p rfl).1
          refine Eff.skip (w' := ((w1.setCell ⟨p, 0, none⟩ (.int .u64 0)).setCell ⟨p, 1, none⟩ (.slice (some ⟨gB, 0, none⟩) n n)).setCell ⟨p, 2, none⟩ (.slice (some ⟨gO, 0, none⟩) n n)) (by go_simp) ⟨((hS1.setCell (p := ⟨p, 0, none⟩) hpB _).setCell (p := ⟨p, 1, none⟩) hpB _).setCell (p := ⟨p, 2, none⟩) hpB _, trivial, hJ1.fin⟩
        rintro u -
        rw [show List.erase [8] 8 = [] from rfl]; simp only [Act.put]
        refine ⟨rfl, fun w1 hS1 hJ1 => ?_⟩
        go_wp2_with fail
        go_meet
        exact ⟨_, gB, gO, rfl, hJ1, hS1⟩
      ·
        rintro _ ⟨p, rfl⟩
        rw [show List.erase [2, 6, 7, 8] 7 = [2, 6, 8] from rfl]; simp only [Act.put, List.setIfInBounds_toArray, List.set_cons_zero, List.set_cons_succ]
        refine TxtT.weakJ (J2 := (fun w' => JN W0.heap.size n none (some gO) (some p) w')) (fun w1 h => by obtain ⟨g, hg, h⟩ := h; injection hg with hg; injection hg with hg; injection hg with hg _ _; subst hg; exact h) ?_
        refine TxtT.one 2 (by as_aux_lemma => kernel_rfl) (by rw [List.getElem?_toArray]; rfl) (by rfl) (by rfl) (fun v => ∃ g, v = Value.slice (some ⟨g, 0, none⟩) n n) (fun v w' => ∃ g, v = Value.slice (some ⟨g, 0, none⟩) n n ∧ JN W0.heap.size n (some g) (some gO) (some p) w') (fun w1 hS1 hJ1 => ?_) ?_
        · have hmk := Hmk.out
          exact Eff.value (w' := w1.alloc (.cells (madeCells #[.int .u64 0] n) 93)) (v := .slice (some ⟨w1.heap.size, 0, none⟩) n n) (by go_simp) ⟨hS1.trans ((newB w1 _).mono hS1.size), ⟨_, rfl⟩, _, rfl, hJ1.mB hS1.size⟩
        rintro _ ⟨gB, rfl⟩
        rw [show List.erase [2, 6, 8] 2 = [6, 8] from rfl]; simp only [Act.put, List.setIfInBounds_toArray, List.set_cons_zero, List.set_cons_succ]
        refine TxtT.weakJ (J2 := (fun w' => JN W0.heap.size n (some gB) (some gO) (some p) w')) (fun w1 h => by obtain ⟨g, hg, h⟩ := h; injection hg with hg; injection hg with hg; injection hg with hg _ _; subst hg; exact h) ?_
        refine TxtT.pure 6 (by rfl) (by rw [List.getElem?_toArray]; rfl) (by rfl) (by as_aux_lemma => kernel_rfl) (by rfl) ?_; apply Exists.intro; refine ⟨fun w1 hS1 => ?_, ?_⟩; (focus (skip; go_simp; with_reducible rfl))
        rw [show List.erase [6, 8] 6 = [8] from rfl]; simp only [Act.put, List.setIfInBounds_toArray, List.set_cons_zero, List.set_cons_succ]
        refine TxtT.one 8 (by as_aux_lemma => kernel_rfl) (by rw [List.getElem?_toArray]; rfl) (by rfl) (by rfl) (fun _ => True) (fun _ w' => NwS n l0 W0.heap.size p gB gO 0 0 0 w') (fun w1 hS1 hJ1 => ?_) ?_
        · have z0 := (hJ1.fc p rfl).2.frozen 0; have z1 := (hJ1.fc p rfl).2.frozen 1; have z2 := (hJ1.fc p rfl).2.frozen 2
          have e0 : w1.cell? ⟨p, 0, none⟩ = some (.int .u64 0) := (hJ1.fc p rfl).2.cell 0; have e1 : w1.cell? ⟨p, 1, none⟩ = some (.slice none 0 0) := (hJ1.fc p rfl).2.cell 1; have e2 : w1.cell? ⟨p, 2, none⟩ = some (.slice none 0 0) := (hJ1.fc p rfl).2.cell 2
          have hpB := (hJ1.fc p rfl).1
          refine Eff.skip (w' := ((w1.setCell ⟨p, 0, none⟩ (.int .u64 0)).setCell ⟨p, 1, none⟩ (.slice (some ⟨gB, 0, none⟩) n n)).setCell ⟨p, 2, none⟩ (.slice (some ⟨gO, 0, none⟩) n n)) (by go_simp) ⟨((hS1.setCell (p := ⟨p, 0, none⟩) hpB _).setCell (p := ⟨p, 1, none⟩) hpB _).setCell (p := ⟨p, 2, none⟩) hpB _, trivial, hJ1.fin⟩
        rintro u -
        rw [show List.erase [8] 8 = [] from rfl]; simp only [Act.put]
        refine ⟨rfl, fun w1 hS1 hJ1 => ?_⟩
        go_wp2_with fail
        go_meet
        exact ⟨_, gB, gO, rfl, hJ1, hS1⟩
    ·
      rintro _ ⟨p, rfl⟩
      rw [show List.erase [2, 5, 6, 7, 8] 7 = [2, 5, 6, 8] from rfl]; simp only [Act.put, List.setIfInBounds_toArray, List.set_cons_zero, List.set_cons_succ]
      refine TxtT.weakJ (J2 := (fun w' => JN W0.heap.size n none none (some p) w')) (fun w1 h => by obtain ⟨g, hg, h⟩ := h; injection hg with hg; injection hg with hg; injection hg with hg _ _; subst hg; exact h) ?_
      refine TxtT.two 2 5 (by as_aux_lemma => kernel_rfl) (by rw [List.getElem?_toArray]; rfl) (by rw [List.getElem?_toArray]; rfl) (by rfl) (by rfl) (by rfl) (by rfl) (fun v => ∃ g, v = Value.slice (some ⟨g, 0, none⟩) n n) (fun v w' => ∃ g, v = Value.slice (some ⟨g, 0, none⟩) n n ∧ JN W0.heap.size n (some g) none (some p) w') (fun v => ∃ g, v = Value.slice (some ⟨g, 0, none⟩) n n) (fun v w' => ∃ g, v = Value.slice (some ⟨g, 0, none⟩) n n ∧ JN W0.heap.size n none (some g) (some p) w') (fun w1 hS1 hJ1 => ?_) (fun w1 hS1 hJ1 => ?_) ?_ ?_
      · have hmk := Hmk.out
        exact Eff.value (w' := w1.alloc (.cells (madeCells #[.int .u64 0] n) 93)) (v := .slice (some ⟨w1.heap.size, 0, none⟩) n n) (by go_simp) ⟨hS1.trans ((newB w1 _).mono hS1.size), ⟨_, rfl⟩, _, rfl, hJ1.mB hS1.size⟩
      · have hmk := Hmk.out
        exact Eff.value (w' := w1.alloc (.cells (madeCells #[.int .u64 0] n) 93)) (v := .slice (some ⟨w1.heap.size, 0, none⟩) n n) (by go_simp) ⟨hS1.trans ((newB w1 _).mono hS1.size), ⟨_, rfl⟩, _, rfl, hJ1.mO hS1.size⟩
      ·
        rintro _ ⟨gB, rfl⟩
        rw [show List.erase [2, 5, 6, 8] 2 = [5, 6, 8] from rfl]; simp only [Act.put, List.setIfInBounds_toArray, List.set_cons_zero, List.set_cons_succ]
        refine TxtT.weakJ (J2 := (fun w' => JN W0.heap.size n (some gB) none (some p) w')) (fun w1 h => by obtain ⟨g, hg, h⟩ := h; injection hg with hg; injection hg with hg; injection hg with hg _ _; subst hg; exact h) ?_
        refine TxtT.one 5 (by as_aux_lemma => kernel_rfl) (by rw [List.getElem?_toArray]; rfl) (by rfl) (by rfl) (fun v => ∃ g, v = Value.slice (some ⟨g, 0, none⟩) n n) (fun v w' => ∃ g, v = Value.slice (some ⟨g, 0, none⟩) n n ∧ JN W0.heap.size n (some gB) (some g) (some p) w') (fun w1 hS1 hJ1 => ?_) ?_
        · have hmk := Hmk.out
          exact Eff.value (w' := w1.alloc (.cells (madeCells #[.int .u64 0] n) 93)) (v := .slice (some ⟨w1.heap.size, 0, none⟩) n n) (by go_simp) ⟨hS1.trans ((newB w1 _).mono hS1.size), ⟨_, rfl⟩, _, rfl, hJ1.mO hS1.size⟩
        rintro _ ⟨gO, rfl⟩
        rw [show List.erase [5, 6, 8] 5 = [6, 8] from rfl]; simp only [Act.put, List.setIfInBounds_toArray, List.set_cons_zero, List.set_cons_succ]
        refine TxtT.weakJ (J2 := (fun w' => JN W0.heap.size n (some gB) (some gO) (some p) w')) (fun w1 h => by obtain ⟨g, hg, h⟩ := h; injection hg with hg; injection hg with hg; injection hg with hg _ _; subst hg; exact h) ?_
        refine TxtT.pure 6 (by rfl) (by rw [List.getElem?_toArray]; rfl) (by rfl) (by as_aux_lemma => kernel_rfl) (by rfl) ?_; apply Exists.intro; refine ⟨fun w1 hS1 => ?_, ?_⟩; (focus (skip; go_simp; with_reducible rfl))
        rw [show List.erase [6, 8] 6 = [8] from rfl]; simp only [Act.put, List.setIfInBounds_toArray, List.set_cons_zero, List.set_cons_succ]
        refine TxtT.one 8 (by as_aux_lemma => kernel_rfl) (by rw [List.getElem?_toArray]; rfl) (by rfl) (by rfl) (fun _ => True) (fun _ w' => NwS n l0 W0.heap.size p gB gO 0 0 0 w') (fun w1 hS1 hJ1 => ?_) ?_
        · have z0 := (hJ1.fc p rfl).2.frozen 0; have z1 := (hJ1.fc p rfl).2.frozen 1; have z2 := (hJ1.fc p rfl).2.frozen 2
          have e0 : w1.cell? ⟨p, 0, none⟩ = some (.int .u64 0) := (hJ1.fc p rfl).2.cell 0; have e1 : w1.cell? ⟨p, 1, none⟩ = some (.slice none 0 0) := (hJ1.fc p rfl).2.cell 1; have e2 : w1.cell? ⟨p, 2, none⟩ = some (.slice none 0 0) := (hJ1.fc p rfl).2.cell 2
          have hpB := (hJ1.fc p rfl).1
          refine Eff.skip (w' := ((w1.setCell ⟨p, 0, none⟩ (.int .u64 0)).setCell ⟨p, 1, none⟩ (.slice (some ⟨gB, 0, none⟩) n n)).setCell ⟨p, 2, none⟩ (.slice (some ⟨gO, 0, none⟩) n n)) (by go_simp) ⟨((hS1.setCell (p := ⟨p, 0, none⟩) hpB _).setCell (p := ⟨p, 1, none⟩) hpB _).setCell (p := ⟨p, 2, none⟩) hpB _, trivial, hJ1.fin⟩
        rintro u -
        rw [show List.erase [8] 8 = [] from rfl]; simp only [Act.put]
        refine ⟨rfl, fun w1 hS1 hJ1 => ?_⟩
        go_wp2_with fail
        go_meet
        exact ⟨_, gB, gO, rfl, hJ1, hS1⟩
      ·
        rintro _ ⟨gO, rfl⟩
        rw [show List.erase [2, 5, 6, 8] 5 = [2, 6, 8] from rfl]; simp only [Act.put, List.setIfInBounds_toArray, List.set_cons_zero, List.set_cons_succ]
        refine TxtT.weakJ (J2 := (fun w' => JN W0.heap.size n none (some gO) (some p) w')) (fun w1 h => by obtain ⟨g, hg, h⟩ := h; injection hg with hg; injection hg with hg; injection hg with hg _ _; subst hg; exact h) ?_
        refine TxtT.one 2 (by as_aux_lemma => kernel_rfl) (by rw [List.getElem?_toArray]; rfl) (by rfl) (by rfl) (fun v => ∃ g, v = Value.slice (some ⟨g, 0, none⟩) n n) (fun v w' => ∃ g, v = Value.slice (some ⟨g, 0, none⟩) n n ∧ JN W0.heap.size n (some g) (some gO) (some p) w') (fun w1 hS1 hJ1 => ?_) ?_
        · have hmk := Hmk.out
          exact Eff.value (w' := w1.alloc (.cells (madeCells #[.int .u64 0] n) 93)) (v := .slice (some ⟨w1.heap.size, 0, none⟩) n n) (by go_simp) ⟨hS1.trans ((newB w1 _).mono hS1.size), ⟨_, rfl⟩, _, rfl, hJ1.mB hS1.size⟩
        rintro _ ⟨gB, rfl⟩
        rw [show List.erase [2, 6, 8] 2 = [6, 8] from rfl]; simp only [Act.put, List.setIfInBounds_toArray, List.set_cons_zero, List.set_cons_succ]
        refine TxtT.weakJ (J2 := (fun w' => JN W0.heap.size n (some gB) (some gO) (some p) w')) (fun w1 h => by obtain ⟨g, hg, h⟩ := h; injection hg with hg; injection hg with hg; injection hg with hg _ _; subst hg; exact h) ?_
        refine TxtT.pure 6 (by rfl) (by rw [List.getElem?_toArray]; rfl) (by rfl) (by as_aux_lemma => kernel_rfl) (by rfl) ?_; apply Exists.intro; refine ⟨fun w1 hS1 => ?_, ?_⟩; (focus (skip; go_simp; with_reducible rfl))
        rw [show List.erase [6, 8] 6 = [8] from rfl]; simp only [Act.put, List.setIfInBounds_toArray, List.set_cons_zero, List.set_cons_succ]
        refine TxtT.one 8 (by as_aux_lemma => kernel_rfl) (by rw [List.getElem?_toArray]; rfl) (by rfl) (by rfl) (fun _ => True) (fun _ w' => NwS n l0 W0.heap.size p gB gO 0 0 0 w') (fun w1 hS1 hJ1 => ?_) ?_
        · have z0 := (hJ1.fc p rfl).2.frozen 0; have z1 := (hJ1.fc p rfl).2.frozen 1; have z2 := (hJ1.fc p rfl).2.frozen 2
          have e0 : w1.cell? ⟨p, 0, none⟩ = some (.int .u64 0) := (hJ1.fc p rfl).2.cell 0; have e1 : w1.cell? ⟨p, 1, none⟩ = some (.slice none 0 0) := (hJ1.fc p rfl).2.cell 1; have e2 : w1.cell? ⟨p, 2, none⟩ = some (.slice none 0 0) := (hJ1.fc p rfl).2.cell 2
          have hpB := (hJ1.fc p rfl).1
          refine Eff.skip (w' := ((w1.setCell ⟨p, 0, none⟩ (.int .u64 0)).setCell ⟨p, 1, none⟩ (.slice (some ⟨gB, 0, none⟩) n n)).setCell ⟨p, 2, none⟩ (.slice (some ⟨gO, 0, none⟩) n n)) (by go_simp) ⟨((hS1.setCell (p := ⟨p, 0, none⟩) hpB _).setCell (p := ⟨p, 1, none⟩) hpB _).setCell (p := ⟨p, 2, none⟩) hpB _, trivial, hJ1.fin⟩
        rintro u -
        rw [show List.erase [8] 8 = [] from rfl]; simp only [Act.put]
        refine ⟨rfl, fun w1 hS1 hJ1 => ?_⟩
        go_wp2_with fail
        go_meet
        exact ⟨_, gB, gO, rfl, hJ1, hS1⟩
  obtain ⟨p, gB, gO, rfl, hst, hS⟩ := hcut
  have hE := hb0.trans (hS.mono (by omega))
  have kw := k1.below hS (by omega)
  have e0 := (hS.cell (lt_of_cell d0)).trans d0
  have e1 := (hS.cell (lt_of_cell d1)).trans d1
  have hrc := hr0.below hS
  have hB0 : w.heap.size + 2 ≤ W0.heap.size := by omega
  generalize W0.heap.size = B at *
  clear hr0 d0 d1 k0 k1 hb0 hS Hmk hlt0
  go_wp2_with fail
  go_loopw [16] (fun t wr => ∃ i : Nat, i ≤ n ∧ t = .int .i64 i ∧ NwS n l0 B p gB gO i 0 0 wr ∧ Below (w.heap.size + 2) wc wr ∧ B ≤ wr.heap.size) (fun t _ => n - (intOf t).toNat)
  case atStart => exact ⟨0, Nat.zero_le _, rfl, hst, Below.refl _ _, by have := hst.hd.lt; have := hst.hp; omega⟩
  case round =>
    obtain ⟨i, hi, rfl, hsr, hbl, hBr⟩ := hrel
    clear hst
    have f0 := hsr.hd.cell 0; have f1 := hsr.hd.cell 1; have f2 := hsr.hd.cell 2
    have z0 := hsr.hd.frozen 0
    simp only [List.getElem?_toArray, List.getElem?_cons_zero, List.getElem?_cons_succ] at f0 f1 f2
    have g1 := (hbl.cell (p := ⟨w.heap.size, 1, none⟩) (Nat.lt_succ_of_lt (Nat.lt_succ_self _))).trans e1
    have Hsr := Lib.hid hsr
    clear hsr
    by_cases hin : i < n
    case pos =>
      have hin' : (i : Int) < (n : Int) := by omega
      go_wp2_with fail
      refine (netWith_any (allN i) i (u64_of (n := i) (by omega) (allN_lt i)) (by omega) wr).mono ?_
      rintro e w2 ⟨rfl, rfl⟩
      rw [allN_with]
      go_wp2_with fail
      go_roundw
      case rel => exact ⟨i + 1, by omega, by go_num, Hsr.out.all (i + 1), hbl.setCell (p := ⟨p, 0, none⟩) (Nat.le_trans hB0 Hsr.out.hp) _, by simpa [World.setCell] using hBr⟩
      case measure => simp [intOf]; omega
    case neg =>
    obtain rfl : i = n := by omega
    clear f0 f1 f2 z0 hin hi
    go_wp2_with fail
    obtain ⟨wv, hwv⟩ : ∃ wv, wv = wr := ⟨_, rfl⟩
    subst hwv
    clear g1
    go_loopw [28] (fun t wr => ∃ k : Nat, k ≤ l0.length ∧ t = .int .i64 k ∧ NwS i l0 B p gB gO i k k wr ∧ Below (w.heap.size + 2) wc wr ∧ B ≤ wr.heap.size) (fun t _ => l0.length - (intOf t).toNat)
    case atStart => exact ⟨0, Nat.zero_le _, rfl, Hsr.out, hbl, hBr⟩
    case round =>
      clear hbl hBr Hsr
      obtain ⟨k, hk, rfl, hsr, hbl, hBr⟩ := hrel
      by_cases hlt : k < l0.length
      case pos =>
        have hbw : Below w.heap.size w wr := hE.trans (hbl.mono (by omega))
        obtain ⟨b, o, rfl, hc, hd⟩ := (hr.below hbw).at_ hlt
        obtain ⟨v1, v2, v3, v4⟩ := hv.2.2 l0[k] (List.getElem_mem _)
        obtain ⟨W1, hW, x0, x1, hbW, hltW⟩ := boxed wr 42 (.int .i64 l0[k].1) (.int .i64 l0[k].2)
        obtain ⟨a, ha⟩ := Int.eq_ofNat_of_zero_le v1
        obtain ⟨z, hz⟩ := Int.eq_ofNat_of_zero_le v3
        rw [ha] at v1 v2 x0 hc hW; rw [hz] at v3 v4 x1 hd hW
        have hpk : l0[k] = ((a : Int), (z : Int)) := Prod.ext ha hz
        have han : a < i := by omega
        have hzn : z < i := by omega
        have hs1 := hsr.below hbW
        have lB := World.rowIs.lt hsr.rb
        have hb1 : Below (w.heap.size + 2) wc W1 := hbl.trans (hbW.mono (by have := hbl.size; omega))
        have hB1 := Nat.le_trans hBr hbW.size
        have f1 : W1.cell? ⟨p, 1, none⟩ = _ := hs1.hd.cell 1; have f2 : W1.cell? ⟨p, 2, none⟩ = _ := hs1.hd.cell 2
        have q1 := World.rowIs.cell hs1.rb hzn
        have q2 := World.rowIs.frozen hs1.rb z
        have hz0 : (0 : Int) ≤ (z : Int) := by omega
        have ha0 : (0 : Int) ≤ (a : Int) := by omega
        have hzi : (z : Int) < (i : Int) := by omega
        have hai : (a : Int) < (i : Int) := by omega
        have Hpk := Lib.hid hpk; have Hs1 := Lib.hid hs1
        clear hsr hs1 hpk ha hz hbw
        go_wp2_with fail
        clear hW
        refine wp_region_textZ [12, 14] (fun w' => w' = W1.drew) (fun _ => True) (by kernel_rfl) (by kernel_rfl) (by kernel_rfl) (by kernel_rfl) rfl trivial ?_
        repeat (first
          | (refine TxtZL.skip (by rfl) ?_; simp only [Act.put, List.setIfInBounds_toArray, List.set_cons_zero, List.set_cons_succ])
          | (refine TxtZL.take (by rfl) (by rfl) ?_; apply Exists.intro; refine ⟨fun w1 hS1 => ?_, ?_⟩; (focus (subst hS1; go_simp; with_reducible rfl)); simp only [Act.put, List.setIfInBounds_toArray, List.set_cons_zero, List.set_cons_succ])
          | (refine TxtZL.takeE' (by rfl) (by rfl) ?_; apply Exists.intro; refine ⟨fun w1 hS1 => ?_, ?_⟩; (focus (subst hS1; go_simp; with_reducible rfl)); simp only [Act.put, List.setIfInBounds_toArray, List.set_cons_zero, List.set_cons_succ]))
        refine TxtZL.call (f := 65) (args := #[.int .u64 ((mkM (flipL (l0.take k)) z : Nat) : Int), .int .i64 (a : Int)]) (fun u => u = .int .u64 ((mkM (flipL (l0.take k)) z ||| 1 <<< a : Nat) : Int)) (fun _ _ => True) (by rfl) (by rfl) ⟨_, rfl⟩ (fun w1 hS1 hJ1 => by subst hS1; go_simp) (fun w1 hS1 hJ1 => ?_) ?_
        · refine (netWith_any _ a (mkf_u64 hv k z) (by omega) w1).mono ?_
          rintro e w' ⟨rfl, rfl⟩
          exact ⟨_, rfl, hS1, rfl, trivial⟩
        rintro _ rfl
        simp only [Act.put, List.setIfInBounds_toArray, List.set_cons_zero, List.set_cons_succ]
        repeat (first
          | (refine TxtZL.skip (by rfl) ?_; simp only [Act.put, List.setIfInBounds_toArray, List.set_cons_zero, List.set_cons_succ])
          | (refine TxtZL.take (by rfl) (by rfl) ?_; apply Exists.intro; refine ⟨fun w1 hS1 => ?_, ?_⟩; (focus (subst hS1; go_simp; with_reducible rfl)); simp only [Act.put, List.setIfInBounds_toArray, List.set_cons_zero, List.set_cons_succ])
          | (refine TxtZL.takeE' (by rfl) (by rfl) ?_; apply Exists.intro; refine ⟨fun w1 hS1 => ?_, ?_⟩; (focus (subst hS1; go_simp; with_reducible rfl)); simp only [Act.put, List.setIfInBounds_toArray, List.set_cons_zero, List.set_cons_succ]))
        refine TxtZL.last (fun w' => w' = W1.drew.setCell ⟨gB, z, none⟩ (.int .u64 ((mkM (flipL (l0.take k)) z ||| 1 <<< a : Nat) : Int))) (by rfl) (by rfl) (fun w1 hS1 hJ1 => ?_) ?_
        · subst hS1
          exact Eff.skip (w' := W1.drew.setCell ⟨gB, z, none⟩ (.int .u64 ((mkM (flipL (l0.take k)) z ||| 1 <<< a : Nat) : Int))) (by go_simp) rfl
        rintro v w2 hw2
        simp only [Act.put]
        have hs2 : NwS i l0 B p gB gO i (k + 1) k w2 := by rw [hw2]; exact Hs1.out.drew.setB hlt Hpk.out
        have hb2 : Below (w.heap.size + 2) wc w2 := by rw [hw2]; exact hb1.drew.setCell (p := ⟨gB, z, none⟩) (Nat.le_trans hB0 Hs1.out.hB) _
        have hB2 : B ≤ w2.heap.size := by rw [hw2]; simpa [World.setCell] using hB1
        have x0 : w2.cell? ⟨wr.heap.size, 0, none⟩ = some (.int .i64 (a : Int)) := by rw [hw2]; exact (World.cell?_setCell_far _ _ _ _ (Nat.ne_of_lt lB)).trans x0
        have x1 : w2.cell? ⟨wr.heap.size, 1, none⟩ = some (.int .i64 (z : Int)) := by rw [hw2]; exact (World.cell?_setCell_far _ _ _ _ (Nat.ne_of_lt lB)).trans x1
        have f1 : w2.cell? ⟨p, 1, none⟩ = _ := hs2.hd.cell 1; have f2 : w2.cell? ⟨p, 2, none⟩ = _ := hs2.hd.cell 2
        have q1 := World.rowIs.cell hs2.ro han
        have q2 := World.rowIs.frozen hs2.ro a
        have Hs2 := Lib.hid hs2; have Hb2 := Lib.hid hb2; have HB2 := Lib.hid hB2
        clear hs2 hb2 hB2 hw2
        go_wp2_with fail
        refine wp_region_textZ [12, 14] (fun w' => w' = w2.drew) (fun _ => True) (by kernel_rfl) (by kernel_rfl) (by kernel_rfl) (by kernel_rfl) rfl trivial ?_
        repeat (first
          | (refine TxtZL.skip (by rfl) ?_; simp only [Act.put, List.setIfInBounds_toArray, List.set_cons_zero, List.set_cons_succ])
          | (refine TxtZL.take (by rfl) (by rfl) ?_; apply Exists.intro; refine ⟨fun w1 hS1 => ?_, ?_⟩; (focus (subst hS1; go_simp; with_reducible rfl)); simp only [Act.put, List.setIfInBounds_toArray, List.set_cons_zero, List.set_cons_succ])
          | (refine TxtZL.takeE' (by rfl) (by rfl) ?_; apply Exists.intro; refine ⟨fun w1 hS1 => ?_, ?_⟩; (focus (subst hS1; go_simp; with_reducible rfl)); simp only [Act.put, List.setIfInBounds_toArray, List.set_cons_zero, List.set_cons_succ]))
        refine TxtZL.call (f := 65) (args := #[.int .u64 ((mkM (l0.take k) a : Nat) : Int), .int .i64 (z : Int)]) (fun u => u = .int .u64 ((mkM (l0.take k) a ||| 1 <<< z : Nat) : Int)) (fun _ _ => True) (by rfl) (by rfl) ⟨_, rfl⟩ (fun w1 hS1 hJ1 => by subst hS1; go_simp) (fun w1 hS1 hJ1 => ?_) ?_
        · refine (netWith_any _ z (mk_u64 hv k a) (by omega) w1).mono ?_
          rintro e w' ⟨rfl, rfl⟩
          exact ⟨_, rfl, hS1, rfl, trivial⟩
        rintro _ rfl
        simp only [Act.put, List.setIfInBounds_toArray, List.set_cons_zero, List.set_cons_succ]
        repeat (first
          | (refine TxtZL.skip (by rfl) ?_; simp only [Act.put, List.setIfInBounds_toArray, List.set_cons_zero, List.set_cons_succ])
          | (refine TxtZL.take (by rfl) (by rfl) ?_; apply Exists.intro; refine ⟨fun w1 hS1 => ?_, ?_⟩; (focus (subst hS1; go_simp; with_reducible rfl)); simp only [Act.put, List.setIfInBounds_toArray, List.set_cons_zero, List.set_cons_succ])
          | (refine TxtZL.takeE' (by rfl) (by rfl) ?_; apply Exists.intro; refine ⟨fun w1 hS1 => ?_, ?_⟩; (focus (subst hS1; go_simp; with_reducible rfl)); simp only [Act.put, List.setIfInBounds_toArray, List.set_cons_zero, List.set_cons_succ]))
        refine TxtZL.last (fun w' => w' = w2.drew.setCell ⟨gO, a, none⟩ (.int .u64 ((mkM (l0.take k) a ||| 1 <<< z : Nat) : Int))) (by rfl) (by rfl) (fun w1 hS1 hJ1 => ?_) ?_
        · subst hS1
          exact Eff.skip (w' := w2.drew.setCell ⟨gO, a, none⟩ (.int .u64 ((mkM (l0.take k) a ||| 1 <<< z : Nat) : Int))) (by go_simp) rfl
        rintro v4 w3 hw3
        simp only [Act.put]
        have hs3 : NwS i l0 B p gB gO i (k + 1) (k + 1) w3 := by rw [hw3]; exact Hs2.out.drew.setO hlt Hpk.out
        have hb3 : Below (w.heap.size + 2) wc w3 := by rw [hw3]; exact Hb2.out.drew.setCell (p := ⟨gO, a, none⟩) (Nat.le_trans hB0 Hs2.out.hO) _
        have hB3 : B ≤ w3.heap.size := by rw [hw3]; simpa [World.setCell] using HB2.out
        clear x0 x1 f1 f2 q1 q2 hw3
        have Hs3 := Lib.hid hs3
        clear hs3
        go_wp2_with fail
        go_roundw
        case rel => exact ⟨k + 1, by omega, by go_num, Hs3.out, hb3, hB3⟩
        case measure => simp [intOf]; omega
      case neg =>
      obtain rfl : k = l0.length := by omega
      have f0 := hsr.hd.cell 0; have f1 := hsr.hd.cell 1; have f2 := hsr.hd.cell 2
      have kr := kw.below hbl (Nat.lt_succ_self _)
      have y0 := kr.cell 0; have y1 := kr.cell 1; have y2 := kr.cell 2
      have z0 := kr.frozen 0; have z1 := kr.frozen 1; have z2 := kr.frozen 2
      have k4 := ((kr.set_ 0 (.int .u64 ((allN i : Nat) : Int))).set_ 1 (.slice (some ⟨gB, 0, none⟩) i i)).set_ 2 (.slice (some ⟨gO, 0, none⟩) i i)
      have u0 := k4.cell 0; have u1 := k4.cell 1; have u2 := k4.cell 2
      simp at u0 u1 u2
      have Hsr := Lib.hid hsr
      clear hsr kr k4
      go_wp2_with fail
      refine bodyPost_ret (v := .agg #[.int .u64 ((allN i : Nat) : Int), .slice (some ⟨gB, 0, none⟩) i i, .slice (some ⟨gO, 0, none⟩) i i]) (by simp [results, Tryd.results63, go_sem, u0, u1, u2]) rfl ?_
      have hg1 := Hsr.out.hB; have hg2 := Hsr.out.hO
      have r1 := Hsr.out.rb; have r2 := Hsr.out.ro
      rw [List.take_length] at r1 r2
      have n1 : gB ≠ w.heap.size + 1 := by omega
      have n2 : gO ≠ w.heap.size + 1 := by omega
      refine ⟨gB, gO, rfl, by omega, by omega, ?_, ?_, ?_⟩
      · exact RU.of_row (World.rowIs.setOther (World.rowIs.setOther (World.rowIs.setOther r1 n1 _) n1 _) n1 _)
      · exact RU.of_row (World.rowIs.setOther (World.rowIs.setOther (World.rowIs.setOther r2 n2 _) n2 _) n2 _)
      · have hbw : Below w.heap.size w wr := hE.trans (hbl.mono (by omega))
        exact ((hbw.setCell (p := ⟨w.heap.size + 1, 0, none⟩) (Nat.le_succ _) _).setCell (p := ⟨w.heap.size + 1, 1, none⟩) (Nat.le_succ _) _).setCell (p := ⟨w.heap.size + 1, 2, none⟩) (Nat.le_succ _) _
end Go.Proofs.YtncimnfhfomddaaDoor
