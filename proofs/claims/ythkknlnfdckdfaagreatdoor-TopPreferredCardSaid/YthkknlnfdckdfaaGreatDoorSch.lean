import Derived.Deep.MidRow
import Derived.Deep.WholeRow
import Derived.ChangeKeysEq
import Derived.Test.YthkknlnfdckdfaaGreatDoorFinB
import Derived.Deep.DeepCutAuto
import Derived.Test.YthkknlnfdckdfaaGreatDoorTxtZ
import Derived.Test.YthkknlnfdckdfaaGreatDoorLb
import Derived.Test.YthkknlnfdckdfaaGreatDoorPl14n
import Derived.Test.YthkknlnfdckdfaaGreatDoorRev
/- search.domains (an array of 40 labels) by value: read, written, compared. -/
namespace Go.Proofs.YthkknlnfdckdfaaGreatDoor
open Go.ChangeShapes Go.WideShapes Go.ChangeAt Go.RowKit

theorem info_dom : (Tryz.prog.info? 112).map (·.size) = some 40 := by kernel_rfl
theorem und_dom : Tryz.prog.underlying 112 = some (.array 40 3) := by kernel_rfl
theorem und_int0 : Tryz.prog.underlying 3 = some (.int .i64) := by kernel_rfl
theorem info_dom2 {D : Nat → Nat} : (Tryz.prog.info? 112).map (·.size) = some (dC D).size := by rw [dC_size]; exact info_dom
theorem guard_dom : Tryz.prog.eqGuardType Tryz.prog.depth 112 = false := by kernel_rfl
theorem dC_all (D : Nat → Nat) : (dC D).all (·.oneCell') = true := Array.all_eq_true_iff_forall_mem.2 fun v hv => dC_cell D v (by simpa using hv)
theorem dC_range {w : World} {b o : Nat} {D : Nat → Nat} (h : ∀ k, k < 40 → w.cell? ⟨b, o + k, none⟩ = some (.int .i64 (D k : Int))) : w.rangeAt b o (dC D).toList := fun j v hv => by
  rw [Array.getElem?_toList] at hv
  have hj : j < 40 := by
    rcases Nat.lt_or_ge j 40 with h | h
    · exact h
    · rw [dC_none h] at hv; cases hv
  rw [dC_at hj] at hv
  injection hv with hv
  rw [← hv]; exact h j hj

/-- the array is read -/
theorem wpList_loadD {ops : Array Oper} {rest : List Oper} {op : Oper} {a : Act} {w : World} {Q : Exit → Act → World → Prop} (hgd : op.guard = none) (x : Operand) (ho : op.op = .load 112 x)
    {b o : Nat} (hx : a.eval x = .pointer (some ⟨b, o, none⟩)) {D : Nat → Nat} (hc : ∀ k, k < 40 → w.cell? ⟨b, o + k, none⟩ = some (.int .i64 (D k : Int)))
    (h : wpList Tryz.prog ops Q rest (a.put op.dst (.agg (dC D))) w) : wpList Tryz.prog ops Q (op :: rest) a w := by
  refine wpList_load_mid hgd 112 x ho b o hx (dC D).toList _ (dC_range hc) und_dom rfl (by rw [Array.length_toList]; exact info_dom2) ?_
  simpa using h
/-- the array is written into the finder -/
theorem wpList_storeF {ops : Array Oper} {rest : List Oper} {op : Oper} {a : Act} {w : World} {Q : Exit → Act → World → Prop} (hgd : op.guard = none) (x y : Operand) (ho : op.op = .store 112 x y)
    {f n : Nat} {vat v : Value} {D : Nat → Nat} {full : Bool} (hF : Fnd w f n vat D v full) {E : Nat → Nat} (hx : a.eval x = .pointer (some ⟨f, 2, none⟩)) (hy : a.eval y = .agg (dC E))
    (h : ∀ w', Fnd w' f n vat E v full → w.grownBy w' (some f) → wpList Tryz.prog ops Q rest (a.put op.dst undef) w') : wpList Tryz.prog ops Q (op :: rest) a w := by
  refine wpList_store_mid hgd 112 x y ho f 2 (dC E) hx hy (fun j hj => ?_) info_dom2 (dC_all E) ?_
  · rw [dC_size] at hj
    rw [hF.at_ hj]; exact ⟨rfl, hF.frozen _⟩
  · obtain ⟨w', hr, h1, h2⟩ := hF.store Tryz.prog E
    have hr2 := run_storeCells_cells (P := Tryz.prog) f 2 (dC E).toList 0 w (fun j hj => by rw [Array.length_toList, dC_size] at hj; rw [hF.at_ hj]; rfl) (fun j _ => hF.frozen _) (fun v hv => dC_cell E v hv)
    simp only [Nat.add_zero] at hr2
    rw [hr] at hr2
    injection hr2 with _ hr2
    rw [← hr2]; exact h w' h1 h2
set_option maxRecDepth 100000 in
/-- .. or into a new variable -/
theorem wpList_storeN {ops : Array Oper} {rest : List Oper} {op : Oper} {a : Act} {w : World} {Q : Exit → Act → World → Prop} (hgd : op.guard = none) (x y : Operand) (ho : op.op = .store 112 x y)
    {Z : Array Value} (hZ : Z.size = 40) {E : Nat → Nat} (hx : a.eval x = .pointer (some ⟨w.heap.size, 0, none⟩)) (hy : a.eval y = .agg (dC E))
    (h : wpList Tryz.prog ops Q rest (a.put op.dst undef) (w.alloc (.cells (dC E) 112))) : wpList Tryz.prog ops Q (op :: rest) a (w.alloc (.cells Z 112)) := by
  refine wpList_plain hgd fun K hK => ?_
  have hst := run_storeAt_new (P := Tryz.prog) w 112 Z (dC E) info_dom2 (by rw [hZ, dC_size]) (dC_all E)
  unfold Oper.wp execOp
  simp only [ho, hx, hy, Sem.run_bind, hst, Result.andThen_ok, Sem.run_pure]
  exact hK _ _ h
/-- two arrays are compared -/
theorem eqItems_dC (A B : Nat → Nat) (w : World) (d : Nat) : ∀ (is : List Nat), (∀ k ∈ is, k < 40) → (Op.eqItems (d + 1) 3 1 (dC A) (dC B) is).run Tryz.prog w = .ok (is.all fun k => A k == B k) w
  | [], _ => by simp [Op.eqItems]
  | k :: is, h => by
    have hk := h k (List.mem_cons_self ..)
    have ih := eqItems_dC A B w d is fun j hj => h j (List.mem_cons_of_mem _ hj)
    have hp : ∀ D : Nat → Nat, (part 3 (dC D) (k * 1)).run Tryz.prog w = .ok (.int .i64 (D k : Int)) w := fun D => by
      unfold part
      have h1 : (isAgg 3).run Tryz.prog w = .ok false w := by
        unfold isAgg
        rw [Sem.run_bind, run_underlying und_int0 w]
        rfl
      rw [Sem.run_bind, h1]
      simp [dC_at hk]
    have he : (Op.equalIn (d + 1) 3 (.int .i64 (A k : Int)) (.int .i64 (B k : Int))).run Tryz.prog w = .ok ((A k : Int) == (B k : Int)) w := run_equalIn_int w d 3 .i64 .i64 _ _ und_int0
    have hc : ((A k : Int) == (B k : Int)) = (A k == B k) := by rw [Bool.eq_iff_iff, beq_iff_eq, beq_iff_eq]; omega
    unfold Op.eqItems
    rw [Sem.run_bind, hp A]
    simp only [Result.andThen_ok]
    rw [Sem.run_bind, hp B]
    simp only [Result.andThen_ok]
    rw [Sem.run_bind, he, hc]
    simp only [Result.andThen_ok, List.all_cons]
    cases A k == B k
    · simp
    · simpa using ih
set_option maxRecDepth 100000 in
theorem run_eqD (A B : Nat → Nat) (w : World) : (Op.equal 112 (.agg (dC A)) (.agg (dC B))).run Tryz.prog w = .ok ((List.range 40).all fun k => A k == B k) w := by
  obtain ⟨i, hi, _⟩ := info_parts info_int
  have h1 : Tryz.prog.cellsOf 3 = 1 := by kernel_rfl
  show (Op.equalIn 10000 _ _ _).run _ _ = _
  rw [run_equalIn_array w 9999 _ _ und_dom hi, h1]
  exact eqItems_dC A B w 9998 _ fun k hk => List.mem_range.1 hk
theorem wpList_eqD {ops : Array Oper} {rest : List Oper} {op : Oper} {a : Act} {w : World} {Q : Exit → Act → World → Prop} (hgd : op.guard = none) (x y : Operand) {yt : TypeId} (ho : op.op = .binOp .eql 112 x y yt)
    {A B : Nat → Nat} (hx : a.eval x = .agg (dC A)) (hy : a.eval y = .agg (dC B))
    (h : wpList Tryz.prog ops Q rest (a.put op.dst (.bool ((List.range 40).all fun k => A k == B k))) w) : wpList Tryz.prog ops Q (op :: rest) a w := by
  refine wpList_plain hgd fun K hK => ?_
  have hg : (eqGuard .eql 112 x y (.agg (dC A)) (.agg (dC B))).run Tryz.prog w = .ok () w := by
    unfold eqGuard
    simp
  have hb : (binOp .eql 112 (.agg (dC A)) (.agg (dC B))).run Tryz.prog w = .ok (.bool ((List.range 40).all fun k => A k == B k)) w := by
    unfold binOp
    rw [Sem.run_bind, run_eqD]
    rfl
  unfold Oper.wp execOp
  simp only [ho, hx, hy]
  rw [Sem.run_bind, Sem.run_bind, hg]
  simp only [Result.andThen_ok, hb]
  exact hK _ _ h
theorem len_dom : Tryz.prog.arrayLen 112 = 40 := by kernel_rfl
theorem run_sliceD (f : Nat) {k : Nat} (hk : k ≤ 40) (w : World) : (Instr.sliceAt 112 (.pointer (some ⟨f, 2, none⟩)) none (some (.int .i64 (k : Int))) none).run Tryz.prog w = .ok (.slice (some ⟨f, 2, none⟩) k 40) w := by
  have ht : Tryz.prog.underlying 112 = some (.array (Tryz.prog.arrayLen 112) (Tryz.prog.elem 112)) := by kernel_rfl
  have he : Tryz.prog.elem 112 = 3 := by kernel_rfl
  obtain ⟨i, hi, _, hz, _⟩ := info_parts info_int
  have hsz : (sizeOf 3).run Tryz.prog w = .ok 1 w := by simp [sizeOf, typeInfo, hi, hz]
  rw [run_sliceAt_array_h w _ _ ht .i64 (k : Int) (by omega) (by rw [len_dom]; omega), he, hsz, len_dom]
  simp [slicedAt, Result.andThen, Addr.add]
theorem run_loadD {b o : Nat} {D : Nat → Nat} (w : World) (hc : ∀ k, k < 40 → w.cell? ⟨b, o + k, none⟩ = some (.int .i64 (D k : Int))) : (Instr.loadAt 112 (.pointer (some ⟨b, o, none⟩))).run Tryz.prog w = .ok (.agg (dC D)) w := by
  have := run_loadAt_mid (P := Tryz.prog) w b o 112 (dC D).toList _ (dC_range hc) und_dom rfl (by rw [Array.length_toList]; exact info_dom2)
  simpa using this
theorem run_guardD (A B : Nat → Nat) (w : World) (x y : Operand) : (eqGuard .eql 112 x y (.agg (dC A)) (.agg (dC B))).run Tryz.prog w = .ok () w := by
  unfold eqGuard
  simp
theorem run_binD (A B : Nat → Nat) (w : World) : (binOp .eql 112 (.agg (dC A)) (.agg (dC B))).run Tryz.prog w = .ok (.bool ((List.range 40).all fun k => A k == B k)) w := by
  unfold binOp
  rw [Sem.run_bind, run_eqD]
  rfl
theorem exec_loadD {ev : Operand → Value} {op : Oper} (x : Operand) (ho : op.op = .load 112 x) {b o : Nat} (hx : ev x = .pointer (some ⟨b, o, none⟩)) {D : Nat → Nat} {w : World} (hc : ∀ k, k < 40 → w.cell? ⟨b, o + k, none⟩ = some (.int .i64 (D k : Int))) : (execOp ev op).run Tryz.prog w = .ok (.value (.agg (dC D))) w := by
  unfold execOp
  simp only [ho, hx, Sem.run_bind, run_loadD w hc, Result.andThen_ok, Sem.run_pure]
theorem exec_eqD {ev : Operand → Value} {op : Oper} (x y : Operand) {yt : TypeId} (ho : op.op = .binOp .eql 112 x y yt) {A B : Nat → Nat} (hx : ev x = .agg (dC A)) (hy : ev y = .agg (dC B)) {w : World} {q : Bool} (hq : ((List.range 40).all fun k => A k == B k) = q) : (execOp ev op).run Tryz.prog w = .ok (.value (.bool q)) w := by
  subst hq
  unfold execOp
  simp only [ho, hx, hy, Sem.run_bind, run_guardD, run_binD, Result.andThen_ok, Sem.run_pure]
end Go.Proofs.YthkknlnfdckdfaaGreatDoor

/- search.finder: can, possible, limit. -/
namespace Go.Proofs.YthkknlnfdckdfaaGreatDoor
open Go.ChangeShapes Go.WideShapes Go.ChangeAt Go.RowKit

theorem i64_and16 : ∀ a b : Fin 16, bits .and .i64 ((a.val : Nat) : Int) ((b.val : Nat) : Int) = ((a.val &&& b.val : Nat) : Int) := by decide +kernel
theorem i64_and_small {a b : Nat} (ha : a ≤ 14) (hb : b ≤ 14) : bits .and .i64 (a : Int) (b : Int) = ((a &&& b : Nat) : Int) := i64_and16 ⟨a, by omega⟩ ⟨b, by omega⟩

theorem canL_take {D : Nat → Nat} {a : List Int} {x k : Nat} (hk : k < a.length) : canL D (a.take (k + 1)) x = canL D (a.take k) x ++ if (D a[k].toNat &&& x) ≠ 0 then [a[k]] else [] := by
  unfold canL
  rw [List.take_succ_eq_append_getElem hk, List.filter_append]
  simp only [List.filter_cons, List.filter_nil]
  simp
theorem canL_len (D : Nat → Nat) (a : List Int) (x : Nat) : (canL D a x).length ≤ a.length := List.length_filter_le _ _

set_option maxRecDepth 100000 in
set_option maxHeartbeats 2000000 in
theorem can_any (f n : Nat) (vat : Value) (D : Nat → Nat) (v : Value) (full : Bool) (A : Option Addr) (a : List Int) (c : Nat) (x : Nat) (w : World) (h : Fnd w f n vat D v full) (ha : RI w A a) (hal : a.length ≤ 100000) (hr : ∀ k ∈ a, 0 ≤ k ∧ k < 40) (hD : ∀ k, D k ≤ 14) (hx : x ≤ 14) :
    Calls Tryz.prog 119 #[.pointer (some ⟨f, 0, none⟩), .slice A a.length c, .int .i64 (x : Int)] w (RetI (canL D a x) w) := by
  have hl := Blk.lt h
  go_enter Tryz.func119, Tryz.ntmps119
  go_wp2_with fail
  go_loopw [7, 12] (fun u i wr => ∃ k : Nat, k ≤ a.length ∧ i = .int .i64 k ∧ OwnI wr w.heap.size u (canL D (a.take k) x) ∧ Below w.heap.size w wr) (fun _ i _ => a.length - (intOf i).toNat)
  case atStart => exact ⟨0, Nat.zero_le _, rfl, OwnI.nil _ _, Below.refl _ _⟩
  case round =>
    obtain ⟨k, hk, rfl, hown, hbl⟩ := hrel
    by_cases hlt : k < a.length
    case neg =>
      have e : a.take k = a := List.take_of_length_le (by omega)
      rw [e] at hown
      go_wp2_with fail
      go_ret
      exact RetI.mk hown hbl
    case pos =>
    obtain ⟨b, o, rfl, hc⟩ := (ha.below hbl).at_ hlt
    have hlt' : (k : Int) < (a.length : Int) := by omega
    obtain ⟨q0, q1⟩ := hr a[k] (List.getElem_mem hlt)
    obtain ⟨kk, hkk⟩ := Int.eq_ofNat_of_zero_le q0
    have hstep := canL_take (D := D) (x := x) hlt
    rw [hkk] at hc q0 q1 hstep
    rw [Int.toNat_natCast] at hstep
    have hcd := Fnd.at_ (Blk.below h hbl hl : Fnd wr f n vat D v full) (show kk < 40 by omega)
    have Hown := Lib.hid hown; have Hstep := Lib.hid hstep
    have hlen : (canL D (a.take k) x).length ≤ 1000000 := by have := canL_len D (a.take k) x; rw [List.length_take] at this; omega
    clear hown hstep hkk
    have hand := i64_and_small (hD kk) hx
    by_cases hz : (D kk &&& x) = 0
    · have hz2 : (bits .and .i64 (D kk : Int) (x : Int) != 0) = false := by rw [hand, hz]; rfl
      have Hz := Lib.hid hz
      clear hz hand
      go_wp2_with fail
      go_roundw
      case rel => exact ⟨k + 1, by omega, by go_num, by rw [Hstep.out, if_neg (by rw [Hz.out]; simp), List.append_nil]; exact Hown.out, hbl⟩
      case measure => simp [intOf]; omega
    · have hz2 : (bits .and .i64 (D kk : Int) (x : Int) != 0) = true := by rw [hand, bne_iff_ne]; omega
      have Hz := Lib.hid hz
      clear hz hand
      go_wp2_with (at_builtin; refine wpList_appI (by rfl) _ _ (by rfl) wr w.heap.size _ _ (kk : Int) Hown.out (by rfl) (by rfl) hlen hbl.size ?_; intro v' w4 hown' hb4 hg4)
      go_roundw
      case rel => exact ⟨k + 1, by omega, by go_num, by rw [Hstep.out, if_pos Hz.out]; exact hown', hbl.trans hb4⟩
      case measure => simp [intOf]; omega

def attLs (n : Nat) (l : List (Int × Int)) : List (List Int) := (List.range n).map fun (i : Nat) => attackersL l (i : Int)
theorem attLs_length (n : Nat) (l : List (Int × Int)) : (attLs n l).length = n := by simp [attLs]
theorem attLs_at {n : Nat} {l : List (Int × Int)} {i : Nat} (h : i < (attLs n l).length) : (attLs n l)[i] = attackersL l (i : Int) := by simp [attLs]
/-- the state of the finder that the helpers look at -/
structure FSt (w : World) (f n B : Nat) (l : List (Int × Int)) (AT : Option Addr) (cA : Nat) (D : Nat → Nat) (v : Value) (full : Bool) : Prop where
  fin : Fnd w f n (.slice AT n cA) D v full
  att : AttOk w f B AT (attLs n l)
  top : subD D (fullD n)
  hv : InR n l
  hB : B ≤ w.heap.size
  hf : f < B
namespace FSt
variable {w w' : World} {f n B : Nat} {l : List (Int × Int)} {AT : Option Addr} {cA : Nat} {D : Nat → Nat} {v : Value} {full : Bool}
theorem below (h : FSt w f n B l AT cA D v full) (hb : Below w.heap.size w w') : FSt w' f n B l AT cA D v full :=
  { h with fin := Blk.below h.fin hb (Blk.lt h.fin), att := h.att.near (Near.of_below (hb.mono h.hB)), hB := Nat.le_trans h.hB hb.size }
theorem upd {D' : Nat → Nat} (h : FSt w f n B l AT cA D v full) (hs : subD D' D) (hf : Fnd w' f n (.slice AT n cA) D' v full) (hg : w.grownBy w' (some f)) : FSt w' f n B l AT cA D' v full :=
  { h with fin := hf, att := h.att.near (Near.of_grown hg h.hB), top := hs.trans h.top, hB := Nat.le_trans h.hB hg.size }
theorem row (h : FSt w f n B l AT cA D v full) {i : Nat} (hi : i < n) : ∃ b o A' c', AT = some ⟨b, o, none⟩ ∧ w.cell? ⟨b, o + i, none⟩ = some (.slice A' (attackersL l (i : Int)).length c') ∧ RI w A' (attackersL l (i : Int)) := by
  have hl : i < (attLs n l).length := by rw [attLs_length]; exact hi
  have := h.att.at_ hl
  rw [attLs_at hl] at this
  exact this
theorem rng (h : FSt w f n B l AT cA D v full) (i : Int) : ∀ k ∈ attackersL l i, 0 ≤ k ∧ k < 40 := fun k hk => by
  have h1 := h.hv.2.2 _ (mem_attackersL.1 hk)
  have h2 := h.hv.1
  simp only at h1
  omega
theorem len (h : FSt w f n B l AT cA D v full) (i : Int) : (attackersL l i).length ≤ 100000 := Nat.le_trans (attackersL_len l i) h.hv.2.1
end FSt

def m1V (a : Bool) : Nat := if a then 12 else 14
def m2V (a b : Bool) : Nat := m1V a - if b then 4 else 0
def m3V (a b c : Bool) : Nat := m2V a b - if c then 8 else 0
theorem poss_m3 (D : Nat → Nat) (a : List Int) : possN D a = m3V (decide ((canL D a 4).length < a.length)) (decide ((canL D a 2).length = 0)) (decide ((canL D a 12).length < a.length) || decide ((canL D a 8).length = 0)) := by
  unfold possN m3V m2V m1V
  by_cases h1 : (canL D a 4).length < a.length <;> by_cases h2 : (canL D a 2).length = 0 <;> by_cases h3 : (canL D a 12).length < a.length <;> by_cases h4 : (canL D a 8).length = 0 <;> simp [h1, h2, h3, h4]
theorem m2V_an : ∀ a b : Bool, bits .andNot .i64 (m1V a : Int) 4 = (m2V a true : Int) ∧ m2V a false = m1V a ∧ bits .andNot .i64 (m2V a b : Int) 8 = (m3V a b true : Int) ∧ m3V a b false = m2V a b ∧ bits .andNot .i64 14 2 = (m1V true : Int) := by decide +kernel

set_option maxRecDepth 100000 in
set_option maxHeartbeats 4000000 in
theorem possible_any (f n B : Nat) (l : List (Int × Int)) (AT : Option Addr) (cA : Nat) (D : Nat → Nat) (v : Value) (full : Bool) (i : Nat) (w : World) (h : FSt w f n B l AT cA D v full) (hi : i < n) :
    Calls Tryz.prog 108 #[.pointer (some ⟨f, 0, none⟩), .int .i64 (i : Int)] w (RetB (.int .i64 (possN D (attackersL l (i : Int)) : Int)) w) := by
  obtain ⟨b, o, A', c', rfl, hc, hri⟩ := h.row hi
  have hi' : (i : Int) < (n : Int) := by omega
  have hrng := h.rng (i : Int)
  have hlen := h.len (i : Int)
  have hD := full_le h.top
  have hC : ∀ (x : Nat) (w1 : World), x ≤ 14 → Below w.heap.size w w1 → Calls Tryz.prog 119 #[.pointer (some ⟨f, 0, none⟩), .slice A' (attackersL l (i : Int)).length c', .int .i64 (x : Int)] w1 (RetI (canL D (attackersL l (i : Int)) x) w1) := fun x w1 hx hb =>
    can_any f n _ D v full A' _ c' x w1 (h.below hb).fin (hri.below hb) hlen hrng hD hx
  rw [poss_m3]
  have e1 := h.fin.c1
  generalize attackersL l (i : Int) = a at *
  have HC := Lib.hid hC
  clear hC h hrng hri
  obtain ⟨q1, h1⟩ : ∃ q, decide ((canL D a 4).length < a.length) = q := ⟨_, rfl⟩
  obtain ⟨q2, h2⟩ : ∃ q, decide ((canL D a 2).length = 0) = q := ⟨_, rfl⟩
  obtain ⟨q3, h3⟩ : ∃ q, decide ((canL D a 12).length < a.length) = q := ⟨_, rfl⟩
  obtain ⟨q4, h4⟩ : ∃ q, decide ((canL D a 8).length = 0) = q := ⟨_, rfl⟩
  rw [h1, h2, h3, h4]
  have g2 : (((canL D a 2).length : Int) == 0) = q2 := by rw [← h2, Bool.eq_iff_iff]; simp
  have g4 : (((canL D a 8).length : Int) == 0) = q4 := by rw [← h4, Bool.eq_iff_iff]; simp
  clear h2 h4
  have hM := Lib.hid m2V_an
  go_enter Tryz.func108, Tryz.ntmps108
  go_wp2_with fail
  refine (HC.out 4 w (by omega) (Below.refl _ _)).mono ?_
  rintro e w1 ⟨A1, c1, rfl, _, _, _, hb1⟩
  go_upto_if 20 with fail
  go_cut [6] (fun s6 wx => s6 = .int .i64 (m1V q1 : Int) ∧ Below w.heap.size w wx)
  case first =>
    cases q1
    · go_wp2_with fail
      go_meet
      exact ⟨rfl, hb1⟩
    · have hm := (hM.out true true).2.2.2.2
      go_wp2_with fail
      go_meet
      exact ⟨rfl, hb1⟩
  obtain ⟨rfl, hb2⟩ := hcut
  clear hb1
  go_wp2_with fail
  refine (HC.out 2 wc (by omega) hb2).mono ?_
  rintro e w2 ⟨A2, c2, rfl, _, _, _, hb3⟩
  have hbb := endB hb2 hb3
  go_upto_if 27 with fail
  go_cut [6] (fun s6 wx => s6 = .int .i64 (m2V q1 q2 : Int) ∧ Below w.heap.size w wx)
  case first =>
    cases q2
    · have hm := (hM.out q1 true).2.1
      go_wp2_with fail
      go_meet
      exact ⟨by first | rw [hm] | rfl, hbb⟩
    · have hm := (hM.out q1 true).1
      go_wp2_with fail
      go_meet
      exact ⟨by first | rw [hm] | rfl, hbb⟩
  obtain ⟨rfl, hb4⟩ := hcut
  clear hb2 hb3 hbb
  go_wp2_with fail
  refine (HC.out 12 _ (by omega) hb4).mono ?_
  rintro e w3 ⟨A3, c3, rfl, _, _, _, hb5⟩
  have hbb := endB hb4 hb5
  cases q3
  · go_wp2_with fail
    refine (HC.out 8 _ (by omega) hbb).mono ?_
    rintro e w4 ⟨A4, c4, rfl, _, _, _, hb6⟩
    have hbc := endB hbb hb6
    try rw [Bool.false_or]
    cases q4
    · have hm := (hM.out q1 q2).2.2.2.1
      go_wp2_with fail
      go_ret
      exact ⟨by first | rw [hm] | rfl, hbc⟩
    · have hm := (hM.out q1 q2).2.2.1
      go_wp2_with fail
      go_ret
      exact ⟨by first | rw [hm] | rfl, hbc⟩
  · try rw [Bool.true_or]
    have hm := (hM.out q1 q2).2.2.1
    go_wp2_with fail
    go_ret
    exact ⟨by first | rw [hm] | rfl, hbb⟩

def maskD (D : Nat → Nat) (s : List Int) (m : Nat) : Nat → Nat := fun k => if (k : Int) ∈ s then D k &&& m else D k
theorem maskD_nil (D : Nat → Nat) (m : Nat) : maskD D [] m = D := by funext k; simp [maskD]
theorem maskD_step {D : Nat → Nat} {a : List Int} {m k kk : Nat} (hk : k < a.length) (hkk : a[k] = (kk : Int)) : maskD D (a.take (k + 1)) m = updN (maskD D (a.take k) m) kk (maskD D (a.take k) m kk &&& m) := by
  funext j
  unfold maskD updN
  rw [List.take_succ_eq_append_getElem hk, hkk]
  by_cases e : j = kk
  · subst e
    rw [if_pos (List.mem_append_right _ (List.mem_singleton.2 rfl)), if_pos rfl]
    split
    · rw [Nat.and_assoc, Nat.and_self]
    · rfl
  · rw [if_neg e]
    have : (j : Int) ∈ a.take k ++ [(kk : Int)] ↔ (j : Int) ∈ a.take k := by
      rw [List.mem_append, List.mem_singleton]
      constructor
      · rintro (h | h)
        · exact h
        · omega
      · exact .inl
    simp only [this]
theorem mask_sub (D : Nat → Nat) (s : List Int) (m : Nat) : subD (maskD D s m) D := fun k => by
  unfold maskD
  split
  · exact andS _ _
  · exact Nat.and_self _
theorem lim1_2 {D : Nat → Nat} {a : List Int} {i : Nat} (h : D i = 2) : lim1 D a i = maskD D a 4 := by funext k; unfold lim1 maskD; rw [if_pos h]
theorem lim1_8 {D : Nat → Nat} {a : List Int} {i : Nat} (h : D i = 8) : lim1 D a i = maskD D a 12 := by funext k; simp [lim1, maskD, h]
theorem lim1_o {D : Nat → Nat} {a : List Int} {i : Nat} (h2 : D i ≠ 2) (h8 : D i ≠ 8) : lim1 D a i = D := by funext k; unfold lim1; rw [if_neg h2, if_neg h8]; split <;> rfl
/-- a list that can be read, no cell of it in block f -/
def RIf (w : World) (f : Nat) (A : Option Addr) (a : List Int) : Prop := ∀ j (hj : j < a.length), ∃ b o, A = some ⟨b, o, none⟩ ∧ b ≠ f ∧ w.cell? ⟨b, o + j, none⟩ = some (.int .i64 a[j])
theorem RIf.grown {w w' : World} {f : Nat} {A : Option Addr} {a : List Int} (h : RIf w f A a) (hg : w.grownBy w' (some f)) : RIf w' f A a := fun j hj => by
  obtain ⟨b, o, hA, hne, hc⟩ := h j hj
  exact ⟨b, o, hA, hne, hg.cell hc (by simpa using hne)⟩
theorem RIf.ri {w : World} {f : Nat} {A : Option Addr} {a : List Int} (h : RIf w f A a) : RI w A a := fun j hj => by
  obtain ⟨b, o, hA, _, hc⟩ := h j hj
  exact ⟨b, o, hA, by rw [hc]; simp [List.getD, hj]⟩
theorem FSt.rowf {w : World} {f n B : Nat} {l : List (Int × Int)} {AT : Option Addr} {cA : Nat} {D : Nat → Nat} {v : Value} {full : Bool} (h : FSt w f n B l AT cA D v full) {i : Nat} (hi : i < n) :
    ∃ b o A' c', AT = some ⟨b, o, none⟩ ∧ w.cell? ⟨b, o + i, none⟩ = some (.slice A' (attackersL l (i : Int)).length c') ∧ RIf w f A' (attackersL l (i : Int)) := by
  have hl : i < (attLs n l).length := by rw [attLs_length]; exact hi
  obtain ⟨b, o, A', c', hA, _, _, hc, hj⟩ := h.att i hl
  rw [attLs_at hl] at hc
  refine ⟨b, o, A', c', hA, hc, fun j hjl => ?_⟩
  obtain ⟨b', o', hA', hf', _, hc'⟩ := hj j (by rw [attLs_at hl]; exact hjl)
  refine ⟨b', o', hA', hf', ?_⟩
  rw [hc']
  simp only [attLs_at hl]
theorem Fnd.drewN {w : World} {f n : Nat} {vat v : Value} {D : Nat → Nat} {full : Bool} (h : Fnd w f n vat D v full) (k : Nat) : Fnd (w.drewN k) f n vat D v full := h

/-- the call returns nothing; the finder's labels are E -/
def RetFn (f n : Nat) (vat : Value) (E : Nat → Nat) (v : Value) (full : Bool) (w : World) : Ending → World → Prop := fun e w' => e = .returned (.tuple #[]) ∧ Fnd w' f n vat E v full ∧ w.grownBy w' (some f)

theorem limD_one {D : Nat → Nat} {a : List Int} {i m kk : Nat} (hm : aloneN (D i) = m) (h : (canL (lim1 D a i) a m).length = 1) (hk : (canL (lim1 D a i) a m).getD 0 0 = (kk : Int)) : limD D a i = updN (lim1 D a i) kk (lim1 D a i kk &&& m) := by
  subst hm
  unfold limD
  rw [if_pos h, hk]
  funext j
  unfold updN
  by_cases e : j = kk
  · subst e; rw [if_pos rfl, if_pos rfl]
  · rw [if_neg (by omega), if_neg e]
theorem limD_not {D : Nat → Nat} {a : List Int} {i m : Nat} (hm : aloneN (D i) = m) (h : ¬ (canL (lim1 D a i) a m).length = 1) : limD D a i = lim1 D a i := by
  subst hm
  unfold limD
  rw [if_neg h]

set_option maxRecDepth 100000 in
set_option maxHeartbeats 8000000 in
theorem limit_any (f n B : Nat) (l : List (Int × Int)) (AT : Option Addr) (cA : Nat) (D : Nat → Nat) (v : Value) (full : Bool) (i : Nat) (w : World) (h : FSt w f n B l AT cA D v full) (hi : i < n) :
    Calls Tryz.prog 109 #[.pointer (some ⟨f, 0, none⟩), .int .i64 (i : Int)] w (RetFn f n (.slice AT n cA) (limD D (attackersL l (i : Int)) i) v full w) := by
  obtain ⟨b, o, A', c', rfl, hc, hrf⟩ := h.rowf hi
  have hi' : (i : Int) < (n : Int) := by omega
  have hrng := h.rng (i : Int)
  have hlen := h.len (i : Int)
  have hD := full_le h.top
  have hn := h.hv.1
  have hfl := Blk.lt h.fin
  have e1 := h.fin.c1
  have hi4 : (i : Int) < 40 := by omega
  have hi40 : i < 40 := by omega
  have hdi := h.fin.at_ hi40
  have hF := h.fin
  have hE : ∀ k, lim1 D (attackersL l (i : Int)) i k ≤ 14 := fun k => Nat.le_trans ((lim1_sub D _ i).le k) (hD k)
  have hin : ∀ (m : Nat), ∀ x ∈ canL (lim1 D (attackersL l (i : Int)) i) (attackersL l (i : Int)) m, ∃ kk : Nat, x = kk ∧ kk < 40 := fun m x hx => by
    obtain ⟨h1, _⟩ := mem_canL.1 hx
    obtain ⟨q0, q1⟩ := hrng x h1
    exact ⟨x.toNat, by omega, by omega⟩
  generalize attackersL l (i : Int) = a at *
  have hC : ∀ (m : Nat) (wx : World), m ≤ 14 → Fnd wx f n (.slice (some ⟨b, o, none⟩) n cA) (lim1 D a i) v full → w.grownBy wx (some f) → Calls Tryz.prog 119 #[.pointer (some ⟨f, 0, none⟩), .slice A' a.length c', .int .i64 (m : Int)] wx (RetI (canL (lim1 D a i) a m) wx) := fun m wx hm hf hg =>
    can_any f n _ (lim1 D a i) v full A' a c' m wx hf (hrf.grown hg).ri hlen hrng hE hm
  have HC := Lib.hid hC; have HF := Lib.hid hF; have HD := Lib.hid hD; have HE := Lib.hid hE; have Hrng := Lib.hid hrng; have Hrf := Lib.hid hrf; have Hin := Lib.hid hin
  clear hC h hF hD hE hrng hrf hin
  go_enter Tryz.func109, Tryz.ntmps109
  by_cases x2 : D i = 2
  · have Hx := Lib.hid x2
    rw [x2] at hdi
    clear x2
    have hal : aloneN (D i) = 0 := by rw [Hx.out]; rfl
    have hl1 : Hid (lim1 D a i = maskD D a 4) := Lib.hid (lim1_2 Hx.out)
    go_wp2_with fail
    go_loopw [28] (fun j wr => ∃ k : Nat, k ≤ a.length ∧ j = .int .i64 k ∧ Fnd wr f n (.slice (some ⟨b, o, none⟩) n cA) (maskD D (a.take k) 4) v full ∧ w.grownBy wr (some f)) (fun j _ => a.length - (intOf j).toNat)
    case atStart => exact ⟨0, Nat.zero_le _, rfl, by rw [List.take_zero, maskD_nil]; exact HF.out, grownBy_refl _ _⟩
    case round =>
      obtain ⟨k, hk, rfl, hF1, hg⟩ := hrel
      by_cases hlt : k < a.length
      case pos =>
        obtain ⟨b1, o1, rfl, _, hc1⟩ := (Hrf.out.grown hg) k hlt
        obtain ⟨q0, q1⟩ := Hrng.out _ (List.getElem_mem hlt)
        obtain ⟨kk, hkk⟩ := Int.eq_ofNat_of_zero_le q0
        rw [hkk] at hc1 q1 q0
        have hk40 : kk < 40 := by omega
        have hcd := hF1.at_ hk40
        have hfz := hF1.frozen (2 + kk)
        have Hstep := Lib.hid (maskD_step (D := D) (m := 4) hlt hkk)
        have hand : bits .and .i64 (maskD D (a.take k) 4 kk : Int) 4 = ((maskD D (a.take k) 4 kk &&& 4 : Nat) : Int) := i64_and_small (Nat.le_trans ((mask_sub D (a.take k) 4).le kk) (HD.out kk)) (show 4 ≤ 14 by omega)
        clear hkk hcd hfz
        go_wp2_with fail
        refine wp_region_textZ [10] (fun w' => Below wr.heap.size wr w') (fun _ => True) (by kernel_rfl) (by kernel_rfl) (by kernel_rfl) (by kernel_rfl) (Below.refl _ _).drew trivial ?_
        repeat (first
          | (refine TxtZL.skip (by rfl) ?_; simp only [Act.put, List.setIfInBounds_toArray, List.set_cons_zero, List.set_cons_succ])
          | (refine TxtZL.take (by rfl) (by rfl) ?_; apply Exists.intro; refine ⟨fun w1 hS1 => ?_, ?_⟩; (focus ((have g1 := Fnd.at_ (Blk.below hF1 hS1 (Blk.lt hF1)) hk40); go_simp; with_reducible rfl)); simp only [Act.put, List.setIfInBounds_toArray, List.set_cons_zero, List.set_cons_succ])
          | (refine TxtZL.takeE' (by rfl) (by rfl) ?_; apply Exists.intro; refine ⟨fun w1 hS1 => ?_, ?_⟩; (focus ((have g1 := Fnd.at_ (Blk.below hF1 hS1 (Blk.lt hF1)) hk40); go_simp; with_reducible rfl)); simp only [Act.put, List.setIfInBounds_toArray, List.set_cons_zero, List.set_cons_succ]))
        refine TxtZL.last (fun w' => Fnd w' f n (.slice (some ⟨b, o, none⟩) n cA) (maskD D (a.take (k + 1)) 4) v full ∧ w.grownBy w' (some f)) (by rfl) (by rfl) (fun w1 hS1 _ => ?_) ?_
        · have hF3 : Fnd w1 f n (.slice (some ⟨b, o, none⟩) n cA) (maskD D (a.take k) 4) v full := Blk.below hF1 hS1 (Blk.lt hF1)
          have hfz := hF3.frozen (2 + kk)
          have hcf := hF3.at_ hk40
          exact Eff.skip (w' := w1.setCell ⟨f, 2 + kk, none⟩ (.int .i64 ((maskD D (a.take k) 4 kk &&& 4 : Nat) : Int))) (by go_simp) ⟨by rw [Hstep.out]; exact hF3.put hk40 _, grownBy_trans hg (grownBy_trans (grownBy_of_below hS1 _) (grownBy_setCell _ f (2 + kk) _))⟩
        rintro v0 w1 ⟨hE1, hE2⟩
        go_wp2_with fail
        go_roundw
        case rel => exact ⟨k + 1, by omega, by go_num, hE1, hE2⟩
        case measure => simp [intOf]; omega
      case neg =>
      rw [List.take_of_length_le (by omega), ← hl1.out] at hF1
      go_wp2_with fail
      refine (HC.out 0 wr (by omega) hF1 hg).mono ?_
      rintro e w1 ⟨A1, c1, rfl, _, hr1, _, hb⟩
      have hF2 : Fnd w1 f n (.slice (some ⟨b, o, none⟩) n cA) (lim1 D a i) v full := Blk.below hF1 hb (Blk.lt hF1)
      have hg2 := grownBy_trans hg (grownBy_of_below hb (some f))
      by_cases hl : (canL (lim1 D a i) a 0).length = 1
      · have hd : (((canL (lim1 D a i) a 0).length : Int) == 1) = true := by simp [hl]
        have hpos : 0 < (canL (lim1 D a i) a 0).length := by omega
        obtain ⟨b2, o2, rfl, hc2⟩ := hr1.at_ hpos
        obtain ⟨kk, hkk, hk40⟩ := Hin.out 0 _ (List.getElem_mem hpos)
        rw [hkk] at hc2
        have hlast := Lib.hid (limD_one (D := D) (a := a) (i := i) (m := 0) hal hl (by rw [List.getD_eq_getElem?_getD, List.getElem?_eq_getElem hpos, Option.getD_some]; exact hkk))
        have hcd := hF2.at_ hk40
        have hfz := hF2.frozen (2 + kk)
        have hand : bits .and .i64 (lim1 D a i kk : Int) 0 = ((lim1 D a i kk &&& 0 : Nat) : Int) := i64_and_small (HE.out kk) (show 0 ≤ 14 by omega)
        have hk0 : (0 : Int) ≤ (kk : Int) := by omega
        have hk1 : (kk : Int) < 40 := by omega
        have Hl := Lib.hid hl
        clear hl hkk hr1 hcd hfz hd
        rw [Nat.add_zero] at hc2
        have hd : (((canL (lim1 D a i) a 0).length : Int) == 1) = true := by simp [Hl.out]
        go_wp2_with fail
        refine wp_region_textZ [13] (fun w' => Below w1.heap.size w1 w') (fun _ => True) (by kernel_rfl) (by kernel_rfl) (by kernel_rfl) (by kernel_rfl) (Below.refl _ _).drew trivial ?_
        repeat (first
          | (refine TxtZL.skip (by rfl) ?_; simp only [Act.put, List.setIfInBounds_toArray, List.set_cons_zero, List.set_cons_succ])
          | (refine TxtZL.take (by rfl) (by rfl) ?_; apply Exists.intro; refine ⟨fun w1 hS1 => ?_, ?_⟩; (focus ((have g1 := Fnd.at_ (Blk.below hF2 hS1 (Blk.lt hF2)) hk40; have g2 := (hS1.cell (p := ⟨b2, o2, none⟩) (lt_of_cell hc2)).trans hc2); go_simp; with_reducible rfl)); simp only [Act.put, List.setIfInBounds_toArray, List.set_cons_zero, List.set_cons_succ])
          | (refine TxtZL.takeE' (by rfl) (by rfl) ?_; apply Exists.intro; refine ⟨fun w1 hS1 => ?_, ?_⟩; (focus ((have g1 := Fnd.at_ (Blk.below hF2 hS1 (Blk.lt hF2)) hk40; have g2 := (hS1.cell (p := ⟨b2, o2, none⟩) (lt_of_cell hc2)).trans hc2); go_simp; with_reducible rfl)); simp only [Act.put, List.setIfInBounds_toArray, List.set_cons_zero, List.set_cons_succ]))
        refine TxtZL.last (fun w' => Fnd w' f n (.slice (some ⟨b, o, none⟩) n cA) (limD D a i) v full ∧ w.grownBy w' (some f)) (by rfl) (by rfl) (fun w2 hS1 _ => ?_) ?_
        · have hF3 : Fnd w2 f n (.slice (some ⟨b, o, none⟩) n cA) (lim1 D a i) v full := Blk.below hF2 hS1 (Blk.lt hF2)
          have hfz := hF3.frozen (2 + kk)
          have hcf := hF3.at_ hk40
          exact Eff.skip (w' := w2.setCell ⟨f, 2 + kk, none⟩ (.int .i64 ((lim1 D a i kk &&& 0 : Nat) : Int))) (by go_simp) ⟨by rw [hlast.out]; exact hF3.put hk40 _, grownBy_trans hg2 (grownBy_trans (grownBy_of_below hS1 _) (grownBy_setCell _ f (2 + kk) _))⟩
        rintro v0 w2 ⟨hE1, hE2⟩
        go_wp2_with fail
        refine bodyPost_ret (results_none rfl _ _ _) rfl ?_
        exact ⟨rfl, hE1, hE2⟩
      · have hd : (((canL (lim1 D a i) a 0).length : Int) == 1) = false := by simp; omega
        have hlast := Lib.hid (limD_not (D := D) (a := a) (i := i) (m := 0) hal hl)
        clear hl hr1
        go_wp2_with fail
        refine bodyPost_ret (results_none rfl _ _ _) rfl ?_
        exact ⟨rfl, by rw [hlast.out]; exact hF2, hg2⟩
  by_cases x4 : D i = 4
  · have Hx := Lib.hid x4
    rw [x4] at hdi
    clear x4
    have hal : aloneN (D i) = 2 := by rw [Hx.out]; rfl
    have hl1 : Hid (lim1 D a i = D) := Lib.hid (lim1_o (by rw [Hx.out]; decide) (by rw [Hx.out]; decide))
    have hg : w.grownBy w (some f) := grownBy_refl _ _
    have hF1 : Fnd w f n (.slice (some ⟨b, o, none⟩) n cA) (lim1 D a i) v full := by rw [hl1.out]; exact HF.out
    go_wp2_with fail
    refine (HC.out 2 w (by omega) hF1 hg).mono ?_
    rintro e w1 ⟨A1, c1, rfl, _, hr1, _, hb⟩
    have hF2 : Fnd w1 f n (.slice (some ⟨b, o, none⟩) n cA) (lim1 D a i) v full := Blk.below hF1 hb (Blk.lt hF1)
    have hg2 := grownBy_trans hg (grownBy_of_below hb (some f))
    by_cases hl : (canL (lim1 D a i) a 2).length = 1
    · have hd : (((canL (lim1 D a i) a 2).length : Int) == 1) = true := by simp [hl]
      have hpos : 0 < (canL (lim1 D a i) a 2).length := by omega
      obtain ⟨b2, o2, rfl, hc2⟩ := hr1.at_ hpos
      obtain ⟨kk, hkk, hk40⟩ := Hin.out 2 _ (List.getElem_mem hpos)
      rw [hkk] at hc2
      have hlast := Lib.hid (limD_one (D := D) (a := a) (i := i) (m := 2) hal hl (by rw [List.getD_eq_getElem?_getD, List.getElem?_eq_getElem hpos, Option.getD_some]; exact hkk))
      have hcd := hF2.at_ hk40
      have hfz := hF2.frozen (2 + kk)
      have hand : bits .and .i64 (lim1 D a i kk : Int) 2 = ((lim1 D a i kk &&& 2 : Nat) : Int) := i64_and_small (HE.out kk) (show 2 ≤ 14 by omega)
      have hk0 : (0 : Int) ≤ (kk : Int) := by omega
      have hk1 : (kk : Int) < 40 := by omega
      have Hl := Lib.hid hl
      clear hl hkk hr1 hcd hfz hd
      rw [Nat.add_zero] at hc2
      have hd : (((canL (lim1 D a i) a 2).length : Int) == 1) = true := by simp [Hl.out]
      go_wp2_with fail
      refine wp_region_textZ [13] (fun w' => Below w1.heap.size w1 w') (fun _ => True) (by kernel_rfl) (by kernel_rfl) (by kernel_rfl) (by kernel_rfl) (Below.refl _ _).drew trivial ?_
      repeat (first
        | (refine TxtZL.skip (by rfl) ?_; simp only [Act.put, List.setIfInBounds_toArray, List.set_cons_zero, List.set_cons_succ])
        | (refine TxtZL.take (by rfl) (by rfl) ?_; apply Exists.intro; refine ⟨fun w1 hS1 => ?_, ?_⟩; (focus ((have g1 := Fnd.at_ (Blk.below hF2 hS1 (Blk.lt hF2)) hk40; have g2 := (hS1.cell (p := ⟨b2, o2, none⟩) (lt_of_cell hc2)).trans hc2); go_simp; with_reducible rfl)); simp only [Act.put, List.setIfInBounds_toArray, List.set_cons_zero, List.set_cons_succ])
        | (refine TxtZL.takeE' (by rfl) (by rfl) ?_; apply Exists.intro; refine ⟨fun w1 hS1 => ?_, ?_⟩; (focus ((have g1 := Fnd.at_ (Blk.below hF2 hS1 (Blk.lt hF2)) hk40; have g2 := (hS1.cell (p := ⟨b2, o2, none⟩) (lt_of_cell hc2)).trans hc2); go_simp; with_reducible rfl)); simp only [Act.put, List.setIfInBounds_toArray, List.set_cons_zero, List.set_cons_succ]))
      refine TxtZL.last (fun w' => Fnd w' f n (.slice (some ⟨b, o, none⟩) n cA) (limD D a i) v full ∧ w.grownBy w' (some f)) (by rfl) (by rfl) (fun w2 hS1 _ => ?_) ?_
      · have hF3 : Fnd w2 f n (.slice (some ⟨b, o, none⟩) n cA) (lim1 D a i) v full := Blk.below hF2 hS1 (Blk.lt hF2)
        have hfz := hF3.frozen (2 + kk)
        have hcf := hF3.at_ hk40
        exact Eff.skip (w' := w2.setCell ⟨f, 2 + kk, none⟩ (.int .i64 ((lim1 D a i kk &&& 2 : Nat) : Int))) (by go_simp) ⟨by rw [hlast.out]; exact hF3.put hk40 _, grownBy_trans hg2 (grownBy_trans (grownBy_of_below hS1 _) (grownBy_setCell _ f (2 + kk) _))⟩
      rintro v0 w2 ⟨hE1, hE2⟩
      go_wp2_with fail
      refine bodyPost_ret (results_none rfl _ _ _) rfl ?_
      exact ⟨rfl, hE1, hE2⟩
    · have hd : (((canL (lim1 D a i) a 2).length : Int) == 1) = false := by simp; omega
      have hlast := Lib.hid (limD_not (D := D) (a := a) (i := i) (m := 2) hal hl)
      clear hl hr1
      go_wp2_with fail
      refine bodyPost_ret (results_none rfl _ _ _) rfl ?_
      exact ⟨rfl, by rw [hlast.out]; exact hF2, hg2⟩
  by_cases x8 : D i = 8
  · have Hx := Lib.hid x8
    rw [x8] at hdi
    clear x8
    have hal : aloneN (D i) = 8 := by rw [Hx.out]; rfl
    have hl1 : Hid (lim1 D a i = maskD D a 12) := Lib.hid (lim1_8 Hx.out)
    go_wp2_with fail
    go_loopw [49] (fun j wr => ∃ k : Nat, k ≤ a.length ∧ j = .int .i64 k ∧ Fnd wr f n (.slice (some ⟨b, o, none⟩) n cA) (maskD D (a.take k) 12) v full ∧ w.grownBy wr (some f)) (fun j _ => a.length - (intOf j).toNat)
    case atStart => exact ⟨0, Nat.zero_le _, rfl, by rw [List.take_zero, maskD_nil]; exact HF.out, grownBy_refl _ _⟩
    case round =>
      obtain ⟨k, hk, rfl, hF1, hg⟩ := hrel
      by_cases hlt : k < a.length
      case pos =>
        obtain ⟨b1, o1, rfl, _, hc1⟩ := (Hrf.out.grown hg) k hlt
        obtain ⟨q0, q1⟩ := Hrng.out _ (List.getElem_mem hlt)
        obtain ⟨kk, hkk⟩ := Int.eq_ofNat_of_zero_le q0
        rw [hkk] at hc1 q1 q0
        have hk40 : kk < 40 := by omega
        have hcd := hF1.at_ hk40
        have hfz := hF1.frozen (2 + kk)
        have Hstep := Lib.hid (maskD_step (D := D) (m := 12) hlt hkk)
        have hand : bits .and .i64 (maskD D (a.take k) 12 kk : Int) 12 = ((maskD D (a.take k) 12 kk &&& 12 : Nat) : Int) := i64_and_small (Nat.le_trans ((mask_sub D (a.take k) 12).le kk) (HD.out kk)) (show 12 ≤ 14 by omega)
        clear hkk hcd hfz
        go_wp2_with fail
        refine wp_region_textZ [10] (fun w' => Below wr.heap.size wr w') (fun _ => True) (by kernel_rfl) (by kernel_rfl) (by kernel_rfl) (by kernel_rfl) (Below.refl _ _).drew trivial ?_
        repeat (first
          | (refine TxtZL.skip (by rfl) ?_; simp only [Act.put, List.setIfInBounds_toArray, List.set_cons_zero, List.set_cons_succ])
          | (refine TxtZL.take (by rfl) (by rfl) ?_; apply Exists.intro; refine ⟨fun w1 hS1 => ?_, ?_⟩; (focus ((have g1 := Fnd.at_ (Blk.below hF1 hS1 (Blk.lt hF1)) hk40); go_simp; with_reducible rfl)); simp only [Act.put, List.setIfInBounds_toArray, List.set_cons_zero, List.set_cons_succ])
          | (refine TxtZL.takeE' (by rfl) (by rfl) ?_; apply Exists.intro; refine ⟨fun w1 hS1 => ?_, ?_⟩; (focus ((have g1 := Fnd.at_ (Blk.below hF1 hS1 (Blk.lt hF1)) hk40); go_simp; with_reducible rfl)); simp only [Act.put, List.setIfInBounds_toArray, List.set_cons_zero, List.set_cons_succ]))
        refine TxtZL.last (fun w' => Fnd w' f n (.slice (some ⟨b, o, none⟩) n cA) (maskD D (a.take (k + 1)) 12) v full ∧ w.grownBy w' (some f)) (by rfl) (by rfl) (fun w1 hS1 _ => ?_) ?_
        · have hF3 : Fnd w1 f n (.slice (some ⟨b, o, none⟩) n cA) (maskD D (a.take k) 12) v full := Blk.below hF1 hS1 (Blk.lt hF1)
          have hfz := hF3.frozen (2 + kk)
          have hcf := hF3.at_ hk40
          exact Eff.skip (w' := w1.setCell ⟨f, 2 + kk, none⟩ (.int .i64 ((maskD D (a.take k) 12 kk &&& 12 : Nat) : Int))) (by go_simp) ⟨by rw [Hstep.out]; exact hF3.put hk40 _, grownBy_trans hg (grownBy_trans (grownBy_of_below hS1 _) (grownBy_setCell _ f (2 + kk) _))⟩
        rintro v0 w1 ⟨hE1, hE2⟩
        go_wp2_with fail
        go_roundw
        case rel => exact ⟨k + 1, by omega, by go_num, hE1, hE2⟩
        case measure => simp [intOf]; omega
      case neg =>
      rw [List.take_of_length_le (by omega), ← hl1.out] at hF1
      go_wp2_with fail
      refine (HC.out 8 wr (by omega) hF1 hg).mono ?_
      rintro e w1 ⟨A1, c1, rfl, _, hr1, _, hb⟩
      have hF2 : Fnd w1 f n (.slice (some ⟨b, o, none⟩) n cA) (lim1 D a i) v full := Blk.below hF1 hb (Blk.lt hF1)
      have hg2 := grownBy_trans hg (grownBy_of_below hb (some f))
      by_cases hl : (canL (lim1 D a i) a 8).length = 1
      · have hd : (((canL (lim1 D a i) a 8).length : Int) == 1) = true := by simp [hl]
        have hpos : 0 < (canL (lim1 D a i) a 8).length := by omega
        obtain ⟨b2, o2, rfl, hc2⟩ := hr1.at_ hpos
        obtain ⟨kk, hkk, hk40⟩ := Hin.out 8 _ (List.getElem_mem hpos)
        rw [hkk] at hc2
        have hlast := Lib.hid (limD_one (D := D) (a := a) (i := i) (m := 8) hal hl (by rw [List.getD_eq_getElem?_getD, List.getElem?_eq_getElem hpos, Option.getD_some]; exact hkk))
        have hcd := hF2.at_ hk40
        have hfz := hF2.frozen (2 + kk)
        have hand : bits .and .i64 (lim1 D a i kk : Int) 8 = ((lim1 D a i kk &&& 8 : Nat) : Int) := i64_and_small (HE.out kk) (show 8 ≤ 14 by omega)
        have hk0 : (0 : Int) ≤ (kk : Int) := by omega
        have hk1 : (kk : Int) < 40 := by omega
        have Hl := Lib.hid hl
        clear hl hkk hr1 hcd hfz hd
        rw [Nat.add_zero] at hc2
        have hd : (((canL (lim1 D a i) a 8).length : Int) == 1) = true := by simp [Hl.out]
        go_wp2_with fail
        refine wp_region_textZ [13] (fun w' => Below w1.heap.size w1 w') (fun _ => True) (by kernel_rfl) (by kernel_rfl) (by kernel_rfl) (by kernel_rfl) (Below.refl _ _).drew trivial ?_
        repeat (first
          | (refine TxtZL.skip (by rfl) ?_; simp only [Act.put, List.setIfInBounds_toArray, List.set_cons_zero, List.set_cons_succ])
          | (refine TxtZL.take (by rfl) (by rfl) ?_; apply Exists.intro; refine ⟨fun w1 hS1 => ?_, ?_⟩; (focus ((have g1 := Fnd.at_ (Blk.below hF2 hS1 (Blk.lt hF2)) hk40; have g2 := (hS1.cell (p := ⟨b2, o2, none⟩) (lt_of_cell hc2)).trans hc2); go_simp; with_reducible rfl)); simp only [Act.put, List.setIfInBounds_toArray, List.set_cons_zero, List.set_cons_succ])
          | (refine TxtZL.takeE' (by rfl) (by rfl) ?_; apply Exists.intro; refine ⟨fun w1 hS1 => ?_, ?_⟩; (focus ((have g1 := Fnd.at_ (Blk.below hF2 hS1 (Blk.lt hF2)) hk40; have g2 := (hS1.cell (p := ⟨b2, o2, none⟩) (lt_of_cell hc2)).trans hc2); go_simp; with_reducible rfl)); simp only [Act.put, List.setIfInBounds_toArray, List.set_cons_zero, List.set_cons_succ]))
        refine TxtZL.last (fun w' => Fnd w' f n (.slice (some ⟨b, o, none⟩) n cA) (limD D a i) v full ∧ w.grownBy w' (some f)) (by rfl) (by rfl) (fun w2 hS1 _ => ?_) ?_
        · have hF3 : Fnd w2 f n (.slice (some ⟨b, o, none⟩) n cA) (lim1 D a i) v full := Blk.below hF2 hS1 (Blk.lt hF2)
          have hfz := hF3.frozen (2 + kk)
          have hcf := hF3.at_ hk40
          exact Eff.skip (w' := w2.setCell ⟨f, 2 + kk, none⟩ (.int .i64 ((lim1 D a i kk &&& 8 : Nat) : Int))) (by go_simp) ⟨by rw [hlast.out]; exact hF3.put hk40 _, grownBy_trans hg2 (grownBy_trans (grownBy_of_below hS1 _) (grownBy_setCell _ f (2 + kk) _))⟩
        rintro v0 w2 ⟨hE1, hE2⟩
        go_wp2_with fail
        refine bodyPost_ret (results_none rfl _ _ _) rfl ?_
        exact ⟨rfl, hE1, hE2⟩
      · have hd : (((canL (lim1 D a i) a 8).length : Int) == 1) = false := by simp; omega
        have hlast := Lib.hid (limD_not (D := D) (a := a) (i := i) (m := 8) hal hl)
        clear hl hr1
        go_wp2_with fail
        refine bodyPost_ret (results_none rfl _ _ _) rfl ?_
        exact ⟨rfl, by rw [hlast.out]; exact hF2, hg2⟩
  have d2 : ((D i : Int) == 2) = false := by simp; omega
  have d4 : ((D i : Int) == 4) = false := by simp; omega
  have d8 : ((D i : Int) == 8) = false := by simp; omega
  have hal : aloneN (D i) = 0 := by unfold aloneN; rw [if_neg x4, if_neg x8]
  have hl1 : Hid (lim1 D a i = D) := Lib.hid (lim1_o x2 x8)
  clear x2 x4 x8
  have hg : w.grownBy w (some f) := grownBy_refl _ _
  have hF1 : Fnd w f n (.slice (some ⟨b, o, none⟩) n cA) (lim1 D a i) v full := by rw [hl1.out]; exact HF.out
  go_wp2_with fail
  refine (HC.out 0 w (by omega) hF1 hg).mono ?_
  rintro e w1 ⟨A1, c1, rfl, _, hr1, _, hb⟩
  have hF2 : Fnd w1 f n (.slice (some ⟨b, o, none⟩) n cA) (lim1 D a i) v full := Blk.below hF1 hb (Blk.lt hF1)
  have hg2 := grownBy_trans hg (grownBy_of_below hb (some f))
  by_cases hl : (canL (lim1 D a i) a 0).length = 1
  · have hd : (((canL (lim1 D a i) a 0).length : Int) == 1) = true := by simp [hl]
    have hpos : 0 < (canL (lim1 D a i) a 0).length := by omega
    obtain ⟨b2, o2, rfl, hc2⟩ := hr1.at_ hpos
    obtain ⟨kk, hkk, hk40⟩ := Hin.out 0 _ (List.getElem_mem hpos)
    rw [hkk] at hc2
    have hlast := Lib.hid (limD_one (D := D) (a := a) (i := i) (m := 0) hal hl (by rw [List.getD_eq_getElem?_getD, List.getElem?_eq_getElem hpos, Option.getD_some]; exact hkk))
    have hcd := hF2.at_ hk40
    have hfz := hF2.frozen (2 + kk)
    have hand : bits .and .i64 (lim1 D a i kk : Int) 0 = ((lim1 D a i kk &&& 0 : Nat) : Int) := i64_and_small (HE.out kk) (show 0 ≤ 14 by omega)
    have hk0 : (0 : Int) ≤ (kk : Int) := by omega
    have hk1 : (kk : Int) < 40 := by omega
    have Hl := Lib.hid hl
    clear hl hkk hr1 hcd hfz hd
    rw [Nat.add_zero] at hc2
    have hd : (((canL (lim1 D a i) a 0).length : Int) == 1) = true := by simp [Hl.out]
    go_wp2_with fail
    refine wp_region_textZ [13] (fun w' => Below w1.heap.size w1 w') (fun _ => True) (by kernel_rfl) (by kernel_rfl) (by kernel_rfl) (by kernel_rfl) (Below.refl _ _).drew trivial ?_
    repeat (first
      | (refine TxtZL.skip (by rfl) ?_; simp only [Act.put, List.setIfInBounds_toArray, List.set_cons_zero, List.set_cons_succ])
      | (refine TxtZL.take (by rfl) (by rfl) ?_; apply Exists.intro; refine ⟨fun w1 hS1 => ?_, ?_⟩; (focus ((have g1 := Fnd.at_ (Blk.below hF2 hS1 (Blk.lt hF2)) hk40; have g2 := (hS1.cell (p := ⟨b2, o2, none⟩) (lt_of_cell hc2)).trans hc2); go_simp; with_reducible rfl)); simp only [Act.put, List.setIfInBounds_toArray, List.set_cons_zero, List.set_cons_succ])
      | (refine TxtZL.takeE' (by rfl) (by rfl) ?_; apply Exists.intro; refine ⟨fun w1 hS1 => ?_, ?_⟩; (focus ((have g1 := Fnd.at_ (Blk.below hF2 hS1 (Blk.lt hF2)) hk40; have g2 := (hS1.cell (p := ⟨b2, o2, none⟩) (lt_of_cell hc2)).trans hc2); go_simp; with_reducible rfl)); simp only [Act.put, List.setIfInBounds_toArray, List.set_cons_zero, List.set_cons_succ]))
    refine TxtZL.last (fun w' => Fnd w' f n (.slice (some ⟨b, o, none⟩) n cA) (limD D a i) v full ∧ w.grownBy w' (some f)) (by rfl) (by rfl) (fun w2 hS1 _ => ?_) ?_
    · have hF3 : Fnd w2 f n (.slice (some ⟨b, o, none⟩) n cA) (lim1 D a i) v full := Blk.below hF2 hS1 (Blk.lt hF2)
      have hfz := hF3.frozen (2 + kk)
      have hcf := hF3.at_ hk40
      exact Eff.skip (w' := w2.setCell ⟨f, 2 + kk, none⟩ (.int .i64 ((lim1 D a i kk &&& 0 : Nat) : Int))) (by go_simp) ⟨by rw [hlast.out]; exact hF3.put hk40 _, grownBy_trans hg2 (grownBy_trans (grownBy_of_below hS1 _) (grownBy_setCell _ f (2 + kk) _))⟩
    rintro v0 w2 ⟨hE1, hE2⟩
    go_wp2_with fail
    refine bodyPost_ret (results_none rfl _ _ _) rfl ?_
    exact ⟨rfl, hE1, hE2⟩
  · have hd : (((canL (lim1 D a i) a 0).length : Int) == 1) = false := by simp; omega
    have hlast := Lib.hid (limD_not (D := D) (a := a) (i := i) (m := 0) hal hl)
    clear hl hr1
    go_wp2_with fail
    refine bodyPost_ret (results_none rfl _ _ _) rfl ?_
    exact ⟨rfl, by rw [hlast.out]; exact hF2, hg2⟩
end Go.Proofs.YthkknlnfdckdfaaGreatDoor

/- search.finder: settle, labels, find. -/
namespace Go.Proofs.YthkknlnfdckdfaaGreatDoor
open Go.ChangeShapes Go.WideShapes Go.ChangeAt Go.RowKit

/-- the labels that a finder's block holds -/
def dOf (w : World) (f : Nat) (k : Nat) : Nat := match w.cell? ⟨f, 2 + k, none⟩ with
  | some (.int _ x) => x.toNat
  | _ => 0
theorem Fnd.dOf {w : World} {f n : Nat} {vat v : Value} {D : Nat → Nat} {full : Bool} (h : Fnd w f n vat D v full) {k : Nat} (hk : k < 40) : dOf w f k = D k := by
  unfold Proofs.YthkknlnfdckdfaaGreatDoor.dOf
  rw [h.at_ hk]
  simp
theorem sumD_congr {A B : Nat → Nat} : ∀ (n : Nat), (∀ k, k < n → A k = B k) → sumD n A = sumD n B
  | 0, _ => rfl
  | n + 1, h => by rw [sumD_succ, sumD_succ, sumD_congr n fun k hk => h k (by omega), h n (by omega)]
theorem Fnd.sum {w : World} {f n : Nat} {vat v : Value} {D : Nat → Nat} {full : Bool} (h : Fnd w f n vat D v full) (hn : n ≤ 40) : sumD n (Proofs.YthkknlnfdckdfaaGreatDoor.dOf w f) = sumD n D :=
  sumD_congr n fun k hk => h.dOf (by omega)
/-- the call says whether each node has a label left; what was struck is in no labelling -/
def RetSt (f n : Nat) (l : List (Int × Int)) (vat : Value) (D : Nat → Nat) (v : Value) (full : Bool) (w : World) : Ending → World → Prop := fun e w' => ∃ (E : Nat → Nat) (b : Bool), e = .returned (.bool b) ∧ Fnd w' f n vat E v full ∧ w.grownBy w' (some f) ∧ subD E D ∧
  (b = true → fixD n l E ∧ (∀ i, i < n → E i ≠ 0) ∧ solL n l E = solL n l D) ∧ (b = false → solL n l D = [])

theorem m3_le : ∀ a b c : Bool, m3V a b c ≤ 14 := by decide
theorem poss_le (D : Nat → Nat) (a : List Int) : possN D a ≤ 14 := by rw [poss_m3]; exact m3_le _ _ _

set_option maxRecDepth 100000 in
set_option maxHeartbeats 8000000 in
theorem settle_any (f n B : Nat) (l : List (Int × Int)) (AT : Option Addr) (cA : Nat) (D : Nat → Nat) (v : Value) (full : Bool) (w : World) (h : FSt w f n B l AT cA D v full) :
    Calls Tryz.prog 83 #[.pointer (some ⟨f, 0, none⟩)] w (RetSt f n l (.slice AT n cA) D v full w) := by
  have hn := h.hv.1
  have H := Lib.hid h
  have hF := h.fin
  have hfl := Blk.lt hF
  have htop := h.top
  clear h
  go_enter Tryz.func83, Tryz.ntmps83
  go_wp2_with fail
  go_loopw [3] (fun s3 wr => ∃ E, Fnd wr f n (.slice AT n cA) E v full ∧ w.grownBy wr (some f) ∧ subD E D ∧ solL n l E = solL n l D) (fun _ wr => sumD n (dOf wr f))
  case atStart => exact ⟨D, hF, grownBy_refl _ _, subD.refl D, rfl⟩
  case round =>
    obtain ⟨E, hE, hg, hsE, hsol⟩ := hrel
    clear hF
    have Hsol := Lib.hid hsol; have HsE := Lib.hid hsE; have HE := Lib.hid hE; have Hg := Lib.hid hg
    have e0 := hE.c0
    have hfr := Blk.lt hE
    clear hsol hsE hE hg
    go_upto_region 2 with (first | (refine wpList_loadD (by rfl) _ (by rfl) (by rfl) (fun k hk => HE.out.at_ hk) ?_) | (refine wpList_storeN (by rfl) _ _ (by rfl) (by rfl) (by rfl) (by rfl) ?_))
    obtain ⟨wo, hwo⟩ : ∃ wo, wo = wr := ⟨_, rfl⟩
    subst hwo
    obtain ⟨W1, hW1, kS, hb1, hs1⟩ : ∃ W1, wo.alloc (.cells (dC E) 112) = W1 ∧ Blk W1 wo.heap.size 112 (dC E) ∧ Below wo.heap.size wo W1 ∧ W1.heap.size = wo.heap.size + 1 := ⟨_, rfl, Blk.new _ _ _, newB _ _, by simp⟩
    rw [hW1]
    clear hW1 e0
    have hE1 : Fnd W1 f n (.slice AT n cA) E v full := Blk.below HE.out hb1 hfr
    have hgW := grownBy_trans Hg.out (grownBy_of_below hb1 (some f))
    have e0 := hE1.c0
    generalize wo.heap.size = S at *
    clear hb1
    go_wp2_with fail
    go_loopw [13] (fun j wr => ∃ (k : Nat) (G : Nat → Nat), k ≤ n ∧ j = .int .i64 k ∧ Fnd wr f n (.slice AT n cA) G v full ∧ W1.grownBy wr (some f) ∧ RoundD n l E G k) (fun j _ => n - (intOf j).toNat)
    case atStart => exact ⟨0, E, Nat.zero_le _, rfl, hE1, grownBy_refl _ _, RoundD.start n l E⟩
    case round =>
      obtain ⟨k, G, hk, rfl, hG, hgq, hR⟩ := hrel
      clear hE1 e0
      have hsub := hR.sub.trans HsE.out
      have hst : FSt wr f n B l AT cA G v full := H.out.upd hsub hG (grownBy_trans hgW hgq)
      have hGl := Blk.lt hG
      have e0 := hG.c0
      have Hst := Lib.hid hst; have HR := Lib.hid hR; have Hsub := Lib.hid hsub; have HG := Lib.hid hG; have Hgq := Lib.hid hgq
      clear hst hR hsub hG hgq
      by_cases hkn : k < n
      case pos =>
        have hk40 : k < 40 := by omega
        have hk40' : (k : Int) < 40 := by omega
        have hk0' : (0 : Int) ≤ (k : Int) := by omega
        have hkn' : (k : Int) < (n : Int) := by omega
        have hand : bits .and .i64 (G k : Int) (possN G (attackersL l (k : Int)) : Int) = ((G k &&& possN G (attackersL l (k : Int)) : Nat) : Int) := i64_and_small (full_le Hst.out.top k) (poss_le _ _)
        go_wp2_with fail
        refine wp_region_textZ [8, 9, 13] (fun w' => Below wr.heap.size wr w') (fun _ => True) (by kernel_rfl) (by kernel_rfl) (by kernel_rfl) (by kernel_rfl) (Below.refl _ _).drew trivial ?_
        clear e0
        repeat (first
          | (refine TxtZL.skip (by rfl) ?_; simp only [Act.put, List.setIfInBounds_toArray, List.set_cons_zero, List.set_cons_succ])
          | (refine TxtZL.take (by rfl) (by rfl) ?_; apply Exists.intro; refine ⟨fun w1 hS1 => ?_, ?_⟩; (focus ((have g1 := Fnd.at_ (Blk.below HG.out hS1 hGl) hk40); go_simp; with_reducible rfl)); simp only [Act.put, List.setIfInBounds_toArray, List.set_cons_zero, List.set_cons_succ])
          | (refine TxtZL.takeE' (by rfl) (by rfl) ?_; apply Exists.intro; refine ⟨fun w1 hS1 => ?_, ?_⟩; (focus ((have g1 := Fnd.at_ (Blk.below HG.out hS1 hGl) hk40); go_simp; with_reducible rfl)); simp only [Act.put, List.setIfInBounds_toArray, List.set_cons_zero, List.set_cons_succ]))
        refine TxtZL.call (f := 108) (args := #[.pointer (some ⟨f, 0, none⟩), .int .i64 (k : Int)]) (fun v => v = Value.int .i64 (possN G (attackersL l (k : Int)) : Int)) (fun _ _ => True) (by rfl) (by rfl) ⟨_, rfl⟩ (fun w1 hS1 _ => by go_simp) (fun w1 hS1 _ => ?_) ?_
        · refine (possible_any f n B l AT cA G v full k w1 (Hst.out.below hS1) hkn).mono ?_
          rintro e w' ⟨rfl, hb⟩
          exact ⟨_, rfl, endB hS1 hb, rfl, trivial⟩
        rintro v24 rfl
        simp only [Act.put, List.setIfInBounds_toArray, List.set_cons_zero, List.set_cons_succ]
        repeat (first
          | (refine TxtZL.skip (by rfl) ?_; simp only [Act.put, List.setIfInBounds_toArray, List.set_cons_zero, List.set_cons_succ])
          | (refine TxtZL.take (by rfl) (by rfl) ?_; apply Exists.intro; refine ⟨fun w1 hS1 => ?_, ?_⟩; (focus ((have g1 := Fnd.at_ (Blk.below HG.out hS1 hGl) hk40); go_simp; with_reducible rfl)); simp only [Act.put, List.setIfInBounds_toArray, List.set_cons_zero, List.set_cons_succ])
          | (refine TxtZL.takeE' (by rfl) (by rfl) ?_; apply Exists.intro; refine ⟨fun w1 hS1 => ?_, ?_⟩; (focus ((have g1 := Fnd.at_ (Blk.below HG.out hS1 hGl) hk40); go_simp; with_reducible rfl)); simp only [Act.put, List.setIfInBounds_toArray, List.set_cons_zero, List.set_cons_succ]))
        refine TxtZL.last (fun w' => Fnd w' f n (.slice AT n cA) (strikeD l G k) v full ∧ W1.grownBy w' (some f)) (by rfl) (by rfl) (fun w1 hS1 _ => ?_) ?_
        · have hF3 : Fnd w1 f n (.slice AT n cA) G v full := Blk.below HG.out hS1 hGl
          have hfz := hF3.frozen (2 + k)
          have hcf := hF3.at_ hk40
          exact Eff.skip (w' := w1.setCell ⟨f, 2 + k, none⟩ (.int .i64 ((G k &&& possN G (attackersL l (k : Int)) : Nat) : Int))) (by go_simp) ⟨hF3.put hk40 _, grownBy_trans Hgq.out (grownBy_trans (grownBy_of_below hS1 _) (grownBy_setCell _ f (2 + k) _))⟩
        rintro v0 w1 ⟨hF1, hg1⟩
        have hcd := hF1.at_ hk40
        have hsub1 := (strike_sub l G k).trans Hsub.out
        have hst1 : FSt w1 f n B l AT cA (strikeD l G k) v full := H.out.upd hsub1 hF1 (grownBy_trans hgW hg1)
        have Hst1 := Lib.hid hst1; have HF1 := Lib.hid hF1; have Hg1 := Lib.hid hg1; have Hsub1 := Lib.hid hsub1
        clear hst1 hF1 hg1 hand hsub1
        by_cases hz : strikeD l G k k = 0
        · have hzb : ((strikeD l G k k : Int) == 0) = true := by rw [hz]; rfl
          have Hz := Lib.hid hz
          clear hz
          go_wp2_with fail
          go_ret
          exact ⟨_, false, rfl, HF1.out, grownBy_trans hgW Hg1.out, Hsub1.out, (fun h => by cases h), fun _ => by rw [← Hsol.out]; exact HR.out.struck H.out.hv hkn hkn Hz.out⟩
        · have hzb : ((strikeD l G k k : Int) == 0) = false := by simp; omega
          clear hz
          go_wp2_with fail
          refine (limit_any f n B l AT cA (strikeD l G k) v full k w1 Hst1.out hkn).mono ?_
          rintro e w2 ⟨rfl, hF2, hg2⟩
          have HF2 := Lib.hid hF2; have Hg2 := Lib.hid hg2
          clear hF2 hg2 hcd
          go_wp2_with fail
          go_roundw
          case rel => exact ⟨k + 1, stepD l G k, by omega, by go_num, HF2.out, grownBy_trans Hg1.out Hg2.out, HR.out.step H.out.hv hkn⟩
          case measure => simp [intOf]; omega
      case neg =>
      obtain rfl : k = n := by omega
      clear hkn hk
      obtain ⟨W0, hW0⟩ : ∃ W0, W0 = wr := ⟨_, rfl⟩
      subst hW0
      have hri : RI W0 (some ⟨f, 2, none⟩) (lst k fun i => (G i : Int)) := fun j hj => by
        rw [lst_length] at hj
        exact ⟨f, 2, rfl, by rw [HG.out.at_ (by omega), lst_getD hj]⟩
      have hcn : ∀ w1, Below W0.heap.size W0 w1 → Calls Tryz.prog 39 #[.slice (some ⟨f, 2, none⟩) k 40, .int .i64 0] w1 (Ret (.bool (inB (lst k fun i => (G i : Int)) 0)) w1) := fun w1 hb => by
        have := containsI_any (some ⟨f, 2, none⟩) (lst k fun i => (G i : Int)) 40 0 w1 (hri.below hb) (by rw [lst_length]; omega)
        rw [lst_length] at this; exact this
      have Hcn := Lib.hid hcn
      clear hcn hri
      obtain ⟨z, hz⟩ : ∃ z, inB (lst k fun i => (G i : Int)) 0 = z := ⟨_, rfl⟩
      have hz2 : (∃ i, i < k ∧ G i = 0) ↔ z = true := by
        rw [← hz, inB_iff]
        unfold lst
        rw [List.mem_map]
        constructor
        · rintro ⟨i, hi, e⟩; exact ⟨i, List.mem_range.2 hi, by rw [e]; rfl⟩
        · rintro ⟨i, hi, e⟩; exact ⟨i, List.mem_range.1 hi, by omega⟩
      have Hz := Lib.hid hz2; have Hzz := Lib.hid hz
      clear hz hz2
      go_wp2_with fail
      refine wp_region_text (S := fun w' => Below W0.heap.size W0 w') (by kernel_rfl) (by kernel_rfl) (Below.refl _ _).drew ?_
      repeat (first
        | (refine TxtL.skip (by rfl) ?_; simp only [Act.put, List.setIfInBounds_toArray, List.set_cons_zero, List.set_cons_succ])
        | (refine TxtL.take' (by rfl) ?_; apply Exists.intro; refine ⟨fun w1 hS1 => ?_, ?_⟩; (focus ((have g0 := Fnd.c0 (Blk.below HG.out hS1 hGl)); (have g2 := run_sliceD f hn w1); go_simp; with_reducible rfl)); simp only [Act.put, List.setIfInBounds_toArray, List.set_cons_zero, List.set_cons_succ])
        | (refine TxtL.call' (by rfl) ?_; apply Exists.intro; apply Exists.intro; refine ⟨fun w1 hS1 => ?_, ?_⟩; (focus (go_simp; first | with_reducible rfl | exact ⟨rfl, rfl⟩)); apply Exists.intro; refine ⟨fun w1 hS1 => ?_, ?_⟩; (focus ((have g0 := Fnd.c0 (Blk.below HG.out hS1 hGl)); (have g2 := run_sliceD f hn w1); first | (refine (Hcn.out w1 hS1).mono ?_; rintro e w' ⟨rfl, rfl⟩; exact ⟨by rw [Hzz.out], hS1⟩))); simp only [Act.put, List.setIfInBounds_toArray, List.set_cons_zero, List.set_cons_succ]))
      refine TxtL.nil (fun w1 hS1 => ?_)
      have hG1 : Fnd w1 f k (.slice AT k cA) G v full := Blk.below HG.out hS1 hGl
      have hgr1 := grownBy_trans (grownBy_trans hgW Hgq.out) (grownBy_of_below hS1 (some f))
      cases z
      case true =>
        obtain ⟨i, hi, h0⟩ := Hz.out.2 rfl
        have Hi := Lib.hid h0
        clear h0
        go_wp2_with fail
        go_ret
        exact ⟨_, false, rfl, hG1, hgr1, Hsub.out, (fun h => by cases h), fun _ => by rw [← Hsol.out, ← HR.out.sol]; exact sol_zero hi Hi.out⟩
      case false =>
      have hnz : ∀ i, i < k → G i ≠ 0 := fun i hi h0 => by have := Hz.out.1 ⟨i, hi, h0⟩; cases this
      have hkS : Blk w1 S 112 (dC E) := Blk.below (Blk.grown kS Hgq.out (by simp; omega)) hS1 (by have := Hgq.out.size; omega)
      have hSl := Blk.lt hkS
      have hGl1 := Blk.lt hG1
      have Hnz := Lib.hid hnz; have HG1 := Lib.hid hG1; have Hgr1 := Lib.hid hgr1; have HkS := Lib.hid hkS
      clear hnz hG1 hgr1 hkS kS
      obtain ⟨q, hq⟩ : ∃ q, ((List.range 40).all fun i => G i == E i) = q := ⟨_, rfl⟩
      have Hq := Lib.hid hq
      clear hq
      obtain ⟨w0, hw0⟩ : ∃ w0, w0 = w1 := ⟨_, rfl⟩
      subst hw0
      go_wp2_with fail
      refine wp_region_text (S := fun w' => Below w0.heap.size w0 w') (by kernel_rfl) (by kernel_rfl) (Below.refl _ _).drew ?_
      repeat (first
        | (refine TxtL.skip (by rfl) ?_; simp only [Act.put, List.setIfInBounds_toArray, List.set_cons_zero, List.set_cons_succ])
        | (refine TxtL.take' (by rfl) ?_; apply Exists.intro; refine ⟨fun w1 hS1 => ?_, ?_⟩; (focus (skip; go_simp; with_reducible rfl)); simp only [Act.put, List.setIfInBounds_toArray, List.set_cons_zero, List.set_cons_succ]))
      refine TxtL.take' (by rfl) ⟨_, fun w1 hS1 => exec_loadD _ (by rfl) (by rfl) (D := G) (fun j hj => Fnd.at_ (Blk.below HG1.out hS1 hGl1) hj), ?_⟩
      simp only [Act.put, List.setIfInBounds_toArray, List.set_cons_zero, List.set_cons_succ]
      refine TxtL.take' (by rfl) ⟨_, fun w1 hS1 => exec_loadD _ (by rfl) (by rfl) (D := E) (fun j hj => by rw [Blk.cell (Blk.below HkS.out hS1 hSl), Nat.zero_add]; exact dC_at hj), ?_⟩
      simp only [Act.put, List.setIfInBounds_toArray, List.set_cons_zero, List.set_cons_succ]
      refine TxtL.take' (by rfl) ⟨_, fun w1 hS1 => exec_eqD _ _ (by rfl) (by rfl) (by rfl) Hq.out, ?_⟩
      simp only [Act.put, List.setIfInBounds_toArray, List.set_cons_zero, List.set_cons_succ]
      refine TxtL.nil (fun w1 hS1 => ?_)
      have hG2 : Fnd w1 f k (.slice AT k cA) G v full := Blk.below HG1.out hS1 hGl1
      have hgr2 := grownBy_trans Hgr1.out (grownBy_of_below hS1 (some f))
      have HG2 := Lib.hid hG2; have Hgr2 := Lib.hid hgr2
      clear hG2 hgr2 hSl hGl1
      cases q
      case true =>
        have hGE : G = E := funext fun i => by
          rcases Nat.lt_or_ge i 40 with hi | hi
          · have := List.all_eq_true.1 Hq.out i (List.mem_range.2 hi)
            simpa using this
          · rw [full_zero (Hsub.out.trans htop) (by omega), full_zero (HsE.out.trans htop) (by omega)]
        have Hfix := Lib.hid (HR.out.fix hGE)
        have Hge := Lib.hid hGE
        clear hGE
        go_wp2_with fail
        go_ret
        exact ⟨_, true, rfl, HG2.out, Hgr2.out, Hsub.out, fun _ => ⟨fun i hi => by rw [Hge.out]; exact Hfix.out i hi, Hnz.out, by rw [HR.out.sol, Hsol.out]⟩, fun h => by cases h⟩
      case false =>
        have hlt : sumD k G < sumD k E := sub_ne (HsE.out.trans htop) HR.out.sub fun e => by
          have := Hq.out
          rw [e] at this
          simp at this
        have Hlt := Lib.hid hlt
        clear hlt
        go_wp2_with fail
        go_roundw
        case rel => exact ⟨G, HG2.out, Hgr2.out, Hsub.out, by rw [HR.out.sol, Hsol.out]⟩
        case measure => rw [HG2.out.sum hn, HE.out.sum hn]; exact Hlt.out
end Go.Proofs.YthkknlnfdckdfaaGreatDoor

/- search.finder: labels, find. -/
namespace Go.Proofs.YthkknlnfdckdfaaGreatDoor
open Go.ChangeShapes Go.WideShapes Go.ChangeAt Go.RowKit

/-- the call tells the first node with several labels, or all labels -/
def RetLn (n : Nat) (D : Nat → Nat) (w : World) : Ending → World → Prop := fun e w' => Below w.heap.size w w' ∧
  ((∃ o, o < n ∧ ¬ oneD (D o) ∧ (∀ j, j < o → oneD (D j)) ∧ e = .returned (.tuple #[.slice none 0 0, .int .i64 (o : Int)])) ∨
   ((∀ i, i < n → oneD (D i)) ∧ ∃ A c, e = .returned (.tuple #[.slice A n c, .int .i64 (-1)]) ∧ OwnI w' w.heap.size (.slice A n c) (lst n fun i => labN (D i))))

set_option maxRecDepth 100000 in
set_option maxHeartbeats 4000000 in
theorem slabels_any (f n B : Nat) (l : List (Int × Int)) (AT : Option Addr) (cA : Nat) (D : Nat → Nat) (v : Value) (full : Bool) (w : World) (h : FSt w f n B l AT cA D v full) :
    Calls Tryz.prog 84 #[.pointer (some ⟨f, 0, none⟩)] w (RetLn n D w) := by
  have hn := h.hv.1
  have hF := h.fin
  have hfl := Blk.lt hF
  have c0 := hF.c0
  have HF := Lib.hid hF
  clear h hF
  go_enter Tryz.func84, Tryz.ntmps84
  go_wp2_with fail
  clear c0
  go_loopw [4, 10] (fun u j wr => ∃ k : Nat, k ≤ n ∧ j = .int .i64 k ∧ OwnI wr w.heap.size u (lst k fun i => labN (D i)) ∧ (∀ i, i < k → oneD (D i)) ∧ Below w.heap.size w wr) (fun _ j _ => n - (intOf j).toNat)
  case atStart => exact ⟨0, Nat.zero_le _, rfl, OwnI.nil _ _, fun i hi => by omega, Below.refl _ _⟩
  case round =>
    obtain ⟨k, hk, rfl, hown, hone, hbl⟩ := hrel
    have Hone := Lib.hid hone
    clear hone
    by_cases hkn : k < n
    case neg =>
      obtain rfl : k = n := by omega
      have Hown := Lib.hid hown
      clear hown
      go_wp2_with fail
      go_ret2
      obtain ⟨A, c, rfl, _, _⟩ := OwnI.form Hown.out
      have ho := Hown.out
      rw [lst_length] at ho ⊢
      exact ⟨hbl, .inr ⟨Hone.out, A, c, rfl, ho⟩⟩
    case pos =>
    have hkn' : (k : Int) < (n : Int) := by omega
    have hk40 : k < 40 := by omega
    have hk40' : (k : Int) < 40 := by omega
    have hk0' : (0 : Int) ≤ (k : Int) := by omega
    have hcd := Fnd.at_ (Blk.below HF.out hbl hfl) hk40
    have hlen : (lst k fun i => labN (D i)).length ≤ 1000000 := by rw [lst_length]; omega
    have Hown := Lib.hid hown
    clear hown
    by_cases x2 : D k = 2
    · rw [x2] at hcd
      have Hx := Lib.hid x2
      clear x2
      go_wp2_with (at_builtin; refine wpList_appI (by rfl) _ _ (by rfl) wr w.heap.size _ _ 1 Hown.out (by rfl) (by rfl) hlen hbl.size ?_; intro v' w4 hown' hb4 hg4)
      go_roundw
      case rel => exact ⟨k + 1, by omega, by go_num, by rw [lst_succ, Hx.out]; exact hown', fun i hi => by
        rcases Nat.lt_or_ge i k with h | h
        · exact Hone.out i h
        · have : i = k := by omega
          rw [this, Hx.out]; decide, hbl.trans hb4⟩
      case measure => simp [intOf]; omega
    by_cases x4 : D k = 4
    · rw [x4] at hcd
      have Hx := Lib.hid x4
      clear x4
      go_wp2_with (at_builtin; refine wpList_appI (by rfl) _ _ (by rfl) wr w.heap.size _ _ 2 Hown.out (by rfl) (by rfl) hlen hbl.size ?_; intro v' w4 hown' hb4 hg4)
      go_roundw
      case rel => exact ⟨k + 1, by omega, by go_num, by rw [lst_succ, Hx.out]; exact hown', fun i hi => by
        rcases Nat.lt_or_ge i k with h | h
        · exact Hone.out i h
        · have : i = k := by omega
          rw [this, Hx.out]; decide, hbl.trans hb4⟩
      case measure => simp [intOf]; omega
    by_cases x8 : D k = 8
    · rw [x8] at hcd
      have Hx := Lib.hid x8
      clear x8
      go_wp2_with (at_builtin; refine wpList_appI (by rfl) _ _ (by rfl) wr w.heap.size _ _ 3 Hown.out (by rfl) (by rfl) hlen hbl.size ?_; intro v' w4 hown' hb4 hg4)
      go_roundw
      case rel => exact ⟨k + 1, by omega, by go_num, by rw [lst_succ, Hx.out]; exact hown', fun i hi => by
        rcases Nat.lt_or_ge i k with h | h
        · exact Hone.out i h
        · have : i = k := by omega
          rw [this, Hx.out]; decide, hbl.trans hb4⟩
      case measure => simp [intOf]; omega
    have d2 : ((D k : Int) == 2) = false := by simp; omega
    have d4 : ((D k : Int) == 4) = false := by simp; omega
    have d8 : ((D k : Int) == 8) = false := by simp; omega
    have hno : ¬ oneD (D k) := fun h => by rcases h with h | h | h <;> omega
    have Hno := Lib.hid hno
    clear x2 x4 x8 hno
    go_wp2_with fail
    go_ret2
    exact ⟨hbl, .inl ⟨k, hkn, Hno.out, Hone.out, rfl⟩⟩

theorem OwnL.kept {w w' : World} {base p : Nat} {xs : List Value} {ls : List (List Int)} (h : OwnL w base xs ls) (hg : w.grownBy w' (some p)) (hp : p < base) : OwnL w' base xs ls :=
  ⟨h.1, fun k hk => by obtain ⟨A, c, h1, h2⟩ := h.2 k hk; exact ⟨A, c, h1, ownsRow_far h2 hg hp⟩⟩
theorem FSt.fr {w w' : World} {f n B : Nat} {l : List (Int × Int)} {AT : Option Addr} {cA : Nat} {D D' : Nat → Nat} {v v' u : Value} {full full' : Bool} (h : FSt w f n B l AT cA D v full) (hs : subD D' (fullD n)) (hF : Fnd w' f n (.slice AT n cA) D' v' full') (hfr : FindFr f u w w') (hu : ∀ k, u.ownBlock = some k → B ≤ k) : FSt w' f n B l AT cA D' v' full' where
  fin := hF
  att := h.att.near ⟨hfr.os, hfr.tape, hfr.output, hfr.size, fun k hk hf => hfr.block k (Nat.lt_of_lt_of_le hk h.hB) hf fun e => by have := hu k e.symm; omega⟩
  top := hs
  hv := h.hv
  hB := Nat.le_trans h.hB hfr.size
  hf := h.hf
theorem OwnS.up {w : World} {b : Nat} {v : Value} {xs : List Value} (h : OwnS w b v xs) : ∀ k, v.ownBlock = some k → b ≤ k ∧ k < w.heap.size := fun k hk => World.ownsRow.lt h k hk

/-- the call has found all labellings that are left, up to 201 -/
def RetFd (f n : Nat) (l : List (Int × Int)) (vat : Value) (D : Nat → Nat) (v : Value) (F : List (List Int)) (B : Nat) (w : World) : Ending → World → Prop := fun e w' => e = .returned (.tuple #[]) ∧ ∃ (D' : Nat → Nat) (v' : Value) (xs' : List Value),
  Fnd w' f n vat D' v' (decide ((capL 201 F (solL n l D)).length = 201)) ∧ OwnS w' B v' xs' ∧ OwnL w' B xs' (capL 201 F (solL n l D)) ∧ FindFr f v w w' ∧ Led w v v'

/-- the finder's list of what was found -/
structure Fou (w : World) (B : Nat) (v : Value) (xs : List Value) (F : List (List Int)) : Prop where
  s : OwnS w B v xs
  l : OwnL w B xs F
namespace Fou
variable {w w' : World} {B f : Nat} {v : Value} {xs : List Value} {F : List (List Int)}
theorem below (h : Fou w B v xs F) (hb : Below w.heap.size w w') : Fou w' B v xs F := ⟨ownsRow_below h.s hb, h.l.below hb⟩
theorem kept (h : Fou w B v xs F) (hg : w.grownBy w' (some f)) (hf : f < B) : Fou w' B v xs F := ⟨ownsRow_far h.s hg hf, h.l.kept hg hf⟩
theorem len (h : Fou w B v xs F) : xs.length = F.length := h.l.1
end Fou

set_option maxRecDepth 100000 in
set_option maxHeartbeats 8000000 in
theorem find_any (f n B : Nat) (l : List (Int × Int)) (AT : Option Addr) (cA : Nat) : ∀ (s : Nat) (D : Nat → Nat) (v : Value) (xs : List Value) (F : List (List Int)) (w : World), sumD n D ≤ s → FSt w f n B l AT cA D v (decide (F.length = 201)) → F.length ≤ 201 → Fou w B v xs F →
    Calls Tryz.prog 62 #[.pointer (some ⟨f, 0, none⟩)] w (RetFd f n l (.slice AT n cA) D v F B w) := by
  intro s
  induction s using Nat.strongRecOn
  rename_i s ih
  intro D v xs F w hs h hF hfo
  have hn := h.hv.1
  have hfB := h.hf
  have hfl := Blk.lt h.fin
  obtain ⟨fb, hfb⟩ : ∃ fb, decide (F.length = 201) = fb := ⟨_, rfl⟩
  rw [hfb] at h
  have c43 := h.fin.c43
  have H := Lib.hid h; have Hfo := Lib.hid hfo; have Hfb := Lib.hid hfb; have Hs := Lib.hid hs
  clear h hfo hfb hs
  cases fb
  case true =>
    have hfull : F.length = 201 := by have := Hfb.out; simpa using this
    have Hend := Lib.hid (capL_full (a := solL n l D) hfull)
    clear hfull
    go_enter Tryz.func62, Tryz.ntmps62
    go_wp2_with fail
    refine bodyPost_ret (results_none rfl _ _ _) rfl ?_
    exact ⟨rfl, D, v, xs, by rw [Hend.out, Hfb.out]; exact H.out.fin, Hfo.out.s, by rw [Hend.out]; exact Hfo.out.l, FindFr.refl .., Led.refl ..⟩
  case false =>
  have hne : F.length ≠ 201 := by have := Hfb.out; simpa using this
  go_enter Tryz.func62, Tryz.ntmps62
  go_wp2_with fail
  refine (settle_any f n B l AT cA D v false w H.out).mono ?_
  rintro e w1 ⟨E, b, rfl, hF1, hg1, hsE, htr, hfa⟩
  have hfo1 := Hfo.out.kept hg1 hfB
  have h1 : FSt w1 f n B l AT cA E v false := H.out.upd hsE hF1 hg1
  have Hg1 := Lib.hid hg1; have Hfo1 := Lib.hid hfo1; have H1 := Lib.hid h1; have HsE := Lib.hid hsE
  clear hF1 hg1 hsE hfo1 h1 c43
  cases b
  case false =>
    have Hend := Lib.hid (show capL 201 F (solL n l D) = F by rw [hfa rfl]; exact capL_nil hF)
    clear htr hfa hF hne
    go_wp2_with fail
    refine bodyPost_ret (results_none rfl _ _ _) rfl ?_
    exact ⟨rfl, E, v, xs, by rw [Hend.out, Hfb.out]; exact H1.out.fin, Hfo1.out.s, by rw [Hend.out]; exact Hfo1.out.l, FindFr.of_grown Hg1.out, Led.refl ..⟩
  case true =>
  obtain ⟨hfix, hnz, hsol⟩ := htr rfl
  have Hfix := Lib.hid hfix; have Hnz := Lib.hid hnz; have Hsol := Lib.hid hsol
  clear htr hfa hfix hnz hsol
  go_wp2_with fail
  refine (slabels_any f n B l AT cA E v false w1 H1.out).mono ?_
  rintro e w2 ⟨hb2, ⟨o, hon, hno, hbef, rfl⟩ | ⟨hall, A2, c2, rfl, ho2⟩⟩
  case inr =>
    have hone := sol_one H.out.hv Hfix.out hall
    have Hend := Lib.hid (show capL 201 F (solL n l D) = F ++ [lst n fun i => labN (E i)] by rw [← Hsol.out, hone]; exact capL_one (by omega))
    have hlen : decide ((F ++ [lst n fun i => labN (E i)]).length = 201) = decide (F.length = 200) := by rw [List.length_append]; simp
    have Hlen := Lib.hid hlen
    have hfo2 := Hfo1.out.below hb2
    have hF2 : Fnd w2 f n (.slice AT n cA) E v false := Blk.below H1.out.fin hb2 (Blk.lt H1.out.fin)
    obtain ⟨AV, cV, rfl, hrs⟩ := OwnS.forms hfo2.s hfo2.l
    have hfl2 : f < w2.heap.size := Blk.lt hF2
    have hB2 : B ≤ w2.heap.size := Nat.le_trans H1.out.hB hb2.size
    have c42 := hF2.c42
    have c43 := hF2.c43
    have z42 := hF2.frozen 42
    have z43 := hF2.frozen 43
    have ho2' : OwnI w2 B (.slice A2 n c2) (lst n fun i => labN (E i)) := OwnI.mono ho2 H1.out.hB
    have Hfo2 := Lib.hid hfo2; have HF2 := Lib.hid hF2; have Ho2 := Lib.hid ho2'; have Hb2 := Lib.hid hb2
    clear hall hone hlen hfo2 hF2 ho2 ho2' hb2 hrs
    obtain ⟨q, hq⟩ : ∃ q, ((F.length : Int) == 200) = q := ⟨_, rfl⟩
    have Hq := Lib.hid (show decide (F.length = 200) = q by rw [← hq, Bool.eq_iff_iff, decide_eq_true_iff, beq_iff_eq]; omega)
    go_upto_region 4 with fail
    obtain ⟨W3, hW3, hF3, hg3⟩ : ∃ W3, w2.setCell ⟨f, 43, none⟩ (.bool q) = W3 ∧ Fnd W3 f n (.slice AT n cA) E (.slice AV F.length cV) q ∧ w2.grownBy W3 (some f) := ⟨_, rfl, HF2.out.put43 q, grownBy_setCell _ _ _ _⟩
    rw [hW3]
    clear hW3 c42 c43 z42 z43 hq
    have hfo3 := Hfo2.out.kept hg3 hfB
    have ho3 : OwnI W3 B (.slice A2 n c2) (lst n fun i => labN (E i)) := ownsRow_far Ho2.out hg3 hfB
    have c42 := hF3.c42
    have z42 := hF3.frozen 42
    have hB3 := Nat.le_trans hB2 hg3.size
    have hxl : xs.length ≤ 1000000 := by rw [hfo3.len]; omega
    obtain ⟨L, hL⟩ : ∃ L, (lst n fun i => labN (E i)) = L := ⟨_, rfl⟩
    rw [hL] at ho3 Hend Hlen
    have HL := Lib.hid (show L.length = n by rw [← hL]; exact lst_length _ _)
    have Hfo3 := Lib.hid hfo3; have HF3 := Lib.hid hF3; have Ho3 := Lib.hid ho3; have Hg3 := Lib.hid hg3
    clear hfo3 hF3 ho3 hg3 hL
    go_wp2_with (at_builtin; go_loud (refine wpList_appS2 (by rfl) _ _ (by rfl) W3 B _ xs A2 n c2 Hfo3.out.s (by rfl) (by rfl) (by rfl) hxl hB3 ?_); intro v' w4 hown' hb4 hg4 hled; (have hol : OwnL w4 B (xs ++ [.slice A2 n c2]) (F ++ [L]) := by (have h1 := (Hfo3.out.l.append Hfo3.out.s hg4).snoc (A := A2) (l := L) (c := c2) (by (rw [HL.out]); exact World.ownsRow.kept Ho3.out hg4 (Ho3.out.apart Hfo3.out.s))); (rw [HL.out] at h1); exact h1); (obtain ⟨A5, c5, rfl, _⟩ := OwnS.forms hown' hol); (have hm : (F ++ [L]).length = F.length + 1 := by simp); (rw [hm] at hown' hled ⊢); (have hF4 : Fnd w4 f n (.slice AT n cA) E (.slice AV F.length cV) q := Blk.grown HF3.out hg4 (fun e => by have := (OwnS.up Hfo3.out.s f e.symm).1; omega)); (have d42 := hF4.c42); (have y42 := hF4.frozen 42); have Hown := Lib.hid hown'; have Hol := Lib.hid hol; have Hled := Lib.hid hled; have HF4 := Lib.hid hF4; have Hg4 := Lib.hid hg4; have Hb4 := Lib.hid hb4; clear hown' hol hled hF4 hg4 hb4 hm)
    refine bodyPost_ret (results_none rfl _ _ _) rfl ?_
    have hfr : FindFr f (.slice AV F.length cV) w (w4.setCell ⟨f, 42, none⟩ (.slice A5 (F.length + 1) c5)) :=
      (((((FindFr.of_grown Hg1.out).trans (Led.refl ..) (FindFr.of_below Hb2.out)).trans (Led.refl ..) (FindFr.of_grown Hg3.out)).trans (Led.refl ..) (FindFr.of_own Hg4.out)).trans (Led.refl ..) (FindFr.of_grown (grownBy_setCell _ _ _ _)))
    refine ⟨rfl, E, .slice A5 (F.length + 1) c5, xs ++ [.slice A2 n c2], ?_, ?_, ?_, hfr, (Led.refl w _).trans ?_ Hled.out⟩
    · rw [Hend.out, Hlen.out, Hq.out]; exact HF4.out.put42 _
    · exact ownsRow_far Hown.out (grownBy_setCell _ _ _ _) hfB
    · rw [Hend.out]; exact Hol.out.kept (grownBy_setCell _ _ _ _) hfB
    · exact Nat.le_trans Hg1.out.size (Nat.le_trans Hb2.out.size Hg3.out.size)
  case inl =>
    have hF2 : Fnd w2 f n (.slice AT n cA) E v false := Blk.below H1.out.fin hb2 (Blk.lt H1.out.fin)
    have hfo2 := Hfo1.out.below hb2
    have hvB : ∀ k, v.ownBlock = some k → B ≤ k ∧ k < w2.heap.size := OwnS.up hfo2.s
    have hfl2 : f < w2.heap.size := Blk.lt hF2
    have hfr2 : FindFr f v w1 w2 := FindFr.of_below hb2
    have ho40 : o < 40 := by omega
    have ho40' : (o : Int) < 40 := by omega
    have ho0 : (0 : Int) ≤ (o : Int) := by omega
    have hE14 := full_le H1.out.top
    have hbr : ∀ x, oneD x → (E o &&& x) ≠ 0 → sumD n (updN E o x) < s := fun x hx hz => by
      have h1 := branch_lt hx hz hno hon
      have h2 := sumD_le HsE.out n
      have h3 := Hs.out
      omega
    have hall := sol_split (l := l) hon hbef
    obtain ⟨brs, hbrs⟩ : ∃ brs, [branchL n l E o 2, branchL n l E o 4, branchL n l E o 8] = brs := ⟨_, rfl⟩
    have hfin : brs.flatten = solL n l D := by rw [← hbrs, ← Hsol.out, hall]; simp
    have hlen3 : brs.length = 3 := by rw [← hbrs]; rfl
    have hat : ∀ k (h : k < brs.length), brs[k] = branchL n l E o (2 ^ (k + 1)) := fun k h => by
      subst hbrs
      match k, h with
      | 0, _ => rfl
      | 1, _ => rfl
      | 2, _ => rfl
    have hstep : ∀ k, k < 3 → (brs.take (k + 1)).flatten = (brs.take k).flatten ++ branchL n l E o (2 ^ (k + 1)) := fun k h => by
      rw [List.take_succ_eq_append_getElem (by omega), List.flatten_append, hat]; simp
    have hzero : (brs.take 0).flatten = [] := by simp
    have hlast : (brs.take 3).flatten = solL n l D := by rw [List.take_of_length_le (by omega)]; exact hfin
    have HF2 := Lib.hid hF2; have Hfo2 := Lib.hid hfo2; have Hfr2 := Lib.hid hfr2; have HvB := Lib.hid hvB; have Hbr := Lib.hid hbr; have Hstep := Lib.hid hstep; have Hzero := Lib.hid hzero; have Hlast := Lib.hid hlast; have HE14 := Lib.hid hE14
    clear hF2 hfo2 hfr2 hvB hbr hstep hzero hlast hat hlen3 hfin hbrs hall hno hbef hb2 hE14 hne
    go_upto_region 6 with (first | (refine wpList_loadD (by rfl) _ (by rfl) (by rfl) (fun k hk => HF2.out.at_ hk) ?_) | (refine wpList_storeN (by rfl) _ _ (by rfl) (by rfl) (by rfl) (by rfl) ?_))
    obtain ⟨W3, hW3, kS, hb3, hs3⟩ : ∃ W3, w2.alloc (.cells (dC E) 112) = W3 ∧ Blk W3 w2.heap.size 112 (dC E) ∧ Below w2.heap.size w2 W3 ∧ W3.heap.size = w2.heap.size + 1 := ⟨_, rfl, Blk.new _ _ _, newB _ _, by simp⟩
    rw [hW3]
    clear hW3
    go_wp2_with fail
    obtain ⟨W4, hW4, kT, hb4, hs4⟩ : ∃ W4, W3.alloc (.cells #[.int .i64 2, .int .i64 4, .int .i64 8] 3) = W4 ∧ Blk W4 W3.heap.size 3 #[.int .i64 2, .int .i64 4, .int .i64 8] ∧ Below W3.heap.size W3 W4 ∧ W4.heap.size = W3.heap.size + 1 := ⟨_, rfl, Blk.new _ _ _, newB _ _, by simp⟩
    rw [hW4]
    clear hW4
    have kS4 := Blk.below kS hb4 (Blk.lt kS)
    have hF4 : Fnd W4 f n (.slice AT n cA) E v false := Blk.below (Blk.below HF2.out hb3 hfl2) hb4 (by omega)
    have hfo4 := (Hfo2.out.below hb3).below hb4
    have hb24 := endB hb3 hb4
    rw [hs3] at kT hs4
    generalize hSS : w2.heap.size = S at *
    clear kS hb3 hb4 hs3
    go_loopw [48] (fun j wr => ∃ (k : Nat) (v' : Value) (xs' : List Value), k ≤ 3 ∧ j = .int .i64 k ∧ Fnd wr f n (.slice AT n cA) E v' (decide ((capL 201 F (brs.take k).flatten).length = 201)) ∧ Fou wr B v' xs' (capL 201 F (brs.take k).flatten) ∧ FindFr f v W4 wr ∧ Led W4 v v') (fun j _ => 3 - (intOf j).toNat)
    case atStart => exact ⟨0, v, xs, Nat.zero_le _, rfl, by rw [Hzero.out, capL_nil hF, Hfb.out]; exact hF4, by rw [Hzero.out, capL_nil hF]; exact hfo4, FindFr.refl .., Led.refl ..⟩
    case round =>
      obtain ⟨k, v', xs', hk, rfl, hFk, hfk, hfr, hled⟩ := hrel
      clear hF4 hfo4
      have HFk := Lib.hid hFk; have Hfk := Lib.hid hfk; have Hfr := Lib.hid hfr; have Hled := Lib.hid hled
      clear hFk hfk hfr hled
      by_cases hk3 : k < 3
      case neg =>
        obtain rfl : k = 3 := by omega
        go_wp2_with fail
        first
          | refine bodyPost_ret (results_none rfl _ _ _) rfl ?_
          | refine bodyPost_end (results_none rfl _ _ _) rfl ?_
        have h1 := HFk.out; have h2 := Hfk.out
        rw [Hlast.out] at h1 h2
        have hfr : FindFr f v w wr := (((FindFr.of_grown Hg1.out).trans (Led.refl ..) Hfr2.out).trans (Led.refl ..) (FindFr.of_below (by rw [hSS]; exact hb24))).trans (Led.refl ..) Hfr.out
        have hle : w.heap.size ≤ W4.heap.size := Nat.le_trans Hg1.out.size (Nat.le_trans Hfr2.out.size (by omega))
        exact ⟨rfl, E, v', xs', h1, h2.s, h2.l, hfr, (Led.refl w v).trans hle Hled.out⟩
      case pos =>
      have hx1 : oneD (2 ^ (k + 1)) := by unfold oneD; have : k = 0 ∨ k = 1 ∨ k = 2 := by omega
                                          rcases this with h | h | h <;> subst h <;> decide
      have hvS : ∀ q, v.ownBlock = some q → q < S := fun q hq => (HvB.out q hq).2
      have hvS' : ∀ g, S ≤ g → some g ≠ v.ownBlock := fun g hg e => by have := hvS g e.symm; omega
      have hkT : Blk wr (S + 1) 3 #[.int .i64 2, .int .i64 4, .int .i64 8] := Hfr.out.blk kT (by omega) (hvS' _ (by omega))
      have hkS : Blk wr S 112 (dC E) := Hfr.out.blk kS4 (by omega) (hvS' _ (by omega))
      have hxv : (#[.int .i64 2, .int .i64 4, .int .i64 8] : Array Value)[k]? = some (.int .i64 ((2 ^ (k + 1) : Nat) : Int)) := by
        have : k = 0 ∨ k = 1 ∨ k = 2 := by omega
        rcases this with h | h | h <;> subst h <;> rfl
      have hcx : wr.cell? ⟨S + 1, k, none⟩ = some (.int .i64 ((2 ^ (k + 1) : Nat) : Int)) := by rw [Blk.cell hkT]; exact hxv
      have hcs : wr.cell? ⟨S, o, none⟩ = some (.int .i64 (E o : Int)) := by rw [Blk.cell hkS]; exact dC_at ho40
      obtain ⟨x, hx⟩ : ∃ x, 2 ^ (k + 1) = x := ⟨_, rfl⟩
      have hst := Hstep.out k hk3
      rw [hx] at hx1 hcx hst
      have hx14 : x ≤ 14 := by rcases hx1 with h | h | h <;> omega
      have hand := i64_and_small (HE14.out o) hx14
      have hk3' : (k : Int) < 3 := by omega
      have hk0' : (0 : Int) ≤ (k : Int) := by omega
      have Hst := Lib.hid hst; have Hx1 := Lib.hid hx1; have HkS := Lib.hid hkS
      clear hst hx1 hx hxv hkT hkS
      by_cases hz : (E o &&& x) = 0
      · have hzb : (((E o &&& x : Nat) : Int) != 0) = false := by rw [hz]; rfl
        have Hbr0 := Lib.hid (show branchL n l E o x = [] by unfold branchL; rw [if_neg (by rw [hz]; simp)])
        clear hz
        go_wp2_with fail
        go_roundw
        case rel => exact ⟨k + 1, v', xs', by omega, by go_num, by rw [Hst.out, Hbr0.out, List.append_nil]; exact HFk.out, by rw [Hst.out, Hbr0.out, List.append_nil]; exact Hfk.out, Hfr.out, Hled.out⟩
        case measure => simp [intOf]; omega
      · have hzb : (((E o &&& x : Nat) : Int) != 0) = true := by rw [bne_iff_ne]; omega
        have Hbr1 := Lib.hid (show branchL n l E o x = solL n l (updN E o x) by unfold branchL; rw [if_pos hz])
        have hlt := Hbr.out x Hx1.out hz
        have hsubx := branch_sub Hx1.out hz
        have Hlt := Lib.hid hlt; have Hsubx := Lib.hid hsubx
        clear hz hlt hsubx
        have hcf := HFk.out.at_ ho40
        have hzf := HFk.out.frozen (2 + o)
        go_wp2_with fail
        have hF5 := HFk.out.put ho40 x
        have hg5 := grownBy_setCell wr f (2 + o) (.int .i64 (x : Int))
        generalize wr.setCell ⟨f, 2 + o, none⟩ (.int .i64 (x : Int)) = w5 at hF5 hg5 ⊢
        have hfr5 : FindFr f v w1 w5 := ((Hfr2.out.trans (Led.refl ..) (FindFr.of_below (by rw [hSS]; exact hb24))).trans (Led.refl ..) Hfr.out).trans (Led.refl ..) (FindFr.of_grown hg5)
        have hst5 : FSt w5 f n B l AT cA (updN E o x) v' (decide ((capL 201 F (brs.take k).flatten).length = 201)) := H1.out.fr (Hsubx.out.trans H1.out.top) hF5 hfr5 fun g hg => (HvB.out g hg).1
        refine (ih (sumD n (updN E o x)) Hlt.out (updN E o x) v' xs' (capL 201 F (brs.take k).flatten) w5 (Nat.le_refl _) hst5 capL_len (Hfk.out.kept hg5 hfB)).mono ?_
        rintro e w6 ⟨rfl, D6, v6, xs6, hF6, hs6, hl6, hfr6, hled6⟩
        rw [capL_cap, ← Hbr1.out, ← Hst.out] at hF6 hl6
        have hS6 : Blk w6 S 112 (dC E) := hfr6.blk (Blk.grown HkS.out hg5 (by simp; omega)) (by omega) (fun e => by
          rcases Hled.out with h | h
          · exact hvS' S (Nat.le_refl _) (e.trans h)
          · have := h S e.symm; omega)
        have HF6 := Lib.hid hF6; have Hs6 := Lib.hid hs6; have Hl6 := Lib.hid hl6; have Hfr6 := Lib.hid hfr6; have Hled6 := Lib.hid hled6; have HS6 := Lib.hid hS6; have Hg5 := Lib.hid hg5
        clear hF5 hg5 hfr5 hst5 hF6 hs6 hl6 hfr6 hled6 hS6 hcf hzf hcx hcs
        go_wp2_with (first
          | (refine wpList_loadD (by rfl) _ (by rfl) (by rfl) (D := E) (fun j hj => by rw [Blk.cell HS6.out, Nat.zero_add]; exact dC_at hj) ?_)
          | (refine wpList_storeF (by rfl) _ _ (by rfl) HF6.out (E := E) (by rfl) (by rfl) ?_; intro w7 hF7 hg7))
        go_roundw
        case rel =>
          refine ⟨k + 1, v6, xs6, by omega, by go_num, hF7, ⟨ownsRow_far Hs6.out hg7 hfB, Hl6.out.kept hg7 hfB⟩, ?_, ?_⟩
          · exact ((Hfr.out.trans Hled.out (FindFr.of_grown Hg5.out)).trans Hled.out Hfr6.out).trans (Hled.out.trans (Nat.le_trans Hfr.out.size Hg5.out.size) Hled6.out) (FindFr.of_grown hg7)
          · exact Hled.out.trans (Nat.le_trans Hfr.out.size Hg5.out.size) Hled6.out
        case measure => simp [intOf]; omega
end Go.Proofs.YthkknlnfdckdfaaGreatDoor

/- search.Complete. -/
namespace Go.Proofs.YthkknlnfdckdfaaGreatDoor
open Go.ChangeShapes Go.WideShapes Go.ChangeAt Go.RowKit

/-- all complete labellings, or an error -/
def compR (N : Int) (l : List (Int × Int)) : List (List Int) × Int := if valE N l = 0 then (if 200 < (compL N.toNat l).length then ([], 2) else (compL N.toNat l, 0)) else ([], valE N l)
theorem compR_bad {N : Int} {l : List (Int × Int)} (h : valE N l ≠ 0) : compR N l = ([], valE N l) := by unfold compR; rw [if_neg h]
theorem compR_ok {n : Nat} {l : List (Int × Int)} (h : valE n l = 0) : compR n l = if 200 < (compL n l).length then ([], 2) else (compL n l, 0) := by unfold compR; rw [if_pos h, Int.toNat_natCast]
/-- the call returns lists and an error -/
def RetLE (r : List (List Int) × Int) (w : World) : Ending → World → Prop := fun e w' => ∃ A c, e = .returned (.tuple #[.slice A r.1.length c, .int .i64 r.2]) ∧ RSo w' A r.1 ∧ (A = none → r.1 = [] ∧ c = 0) ∧ Below w.heap.size w w'
theorem RSo.nil (w : World) (A : Option Addr) : RSo w A [] := fun k hk => absurd hk (by simp)
theorem OwnS.forms2 {w : World} {b b' : Nat} {v : Value} {xs : List Value} {ls : List (List Int)} (h : OwnS w b v xs) (hl : OwnL w b' xs ls) : ∃ A c, v = .slice A ls.length c ∧ RSo w A ls ∧ (A = none → ls = [] ∧ c = 0) := by
  obtain ⟨A, c, e, hr⟩ := OwnS.forms h hl
  refine ⟨A, c, e, hr, fun hA => ?_⟩
  obtain ⟨_, h2⟩ := h
  rcases h2 with ⟨e2, hn⟩ | ⟨g, cap, cur, e2, _⟩
  · rw [e] at e2
    injection e2 with _ e3 e4
    exact ⟨List.eq_nil_of_length_eq_zero e3, e4⟩
  · rw [e, hA] at e2; injection e2 with e3; cases e3
theorem att_of_own {w : World} {B f : Nat} {v : Value} {xs : List Value} {ls : List (List Int)} (hs : OwnS w B v xs) (hl : OwnL w B xs ls) (hf : f < B) : ∃ A c, v = .slice A ls.length c ∧ AttOk w f w.heap.size A ls := by
  have hs' := hs
  obtain ⟨h1, h2⟩ := hs
  rcases h2 with ⟨rfl, hn⟩ | ⟨g, cap, cur, rfl, hg, hgl, r⟩
  · have : ls = [] := List.eq_nil_of_length_eq_zero (by rw [← hl.1]; exact hn)
    subst this
    exact ⟨none, 0, rfl, fun k hk => absurd hk (by simp)⟩
  · refine ⟨some ⟨g, 0, none⟩, cap, by rw [hl.1], fun k hk => ?_⟩
    obtain ⟨A', c', hx, hr⟩ := hl.2 k hk
    have e : ls.getD k [] = ls[k] := by simp [List.getD, hk]
    rw [e] at hx hr
    have c0 := hs'.cells (g := g) rfl _ _ hx
    rw [show (⟨g, 0, none⟩ : Addr).add k = ⟨g, 0 + k, none⟩ by unfold Addr.add; split <;> simp_all] at c0
    refine ⟨g, 0, A', c', rfl, by omega, (World.ownsRow.lt hs' g rfl).2, c0, fun j hj => ?_⟩
    obtain ⟨b, o, hA, hc⟩ := hr.ri.at_ hj
    have hob : (Value.slice A' ls[k].length c').ownBlock = some b := by rw [hA]; rfl
    have := World.ownsRow.lt hr b hob
    exact ⟨b, o, hA, by omega, this.2, hc⟩
theorem dC_zero : dC (fullD 0) = #[.int .i64 0, .int .i64 0, .int .i64 0, .int .i64 0, .int .i64 0, .int .i64 0, .int .i64 0, .int .i64 0, .int .i64 0, .int .i64 0, .int .i64 0, .int .i64 0, .int .i64 0, .int .i64 0, .int .i64 0, .int .i64 0, .int .i64 0, .int .i64 0, .int .i64 0, .int .i64 0, .int .i64 0, .int .i64 0, .int .i64 0, .int .i64 0, .int .i64 0, .int .i64 0, .int .i64 0, .int .i64 0, .int .i64 0, .int .i64 0, .int .i64 0, .int .i64 0, .int .i64 0, .int .i64 0, .int .i64 0, .int .i64 0, .int .i64 0, .int .i64 0, .int .i64 0, .int .i64 0] := by kernel_rfl
set_option maxRecDepth 100000 in
theorem finC_zero (n : Nat) : finC n (.slice none 0 0) (fullD 0) (.slice none 0 0) false = #[.int .i64 (n : Int), .slice none 0 0, .int .i64 0, .int .i64 0, .int .i64 0, .int .i64 0, .int .i64 0, .int .i64 0, .int .i64 0, .int .i64 0, .int .i64 0, .int .i64 0, .int .i64 0, .int .i64 0, .int .i64 0, .int .i64 0, .int .i64 0, .int .i64 0, .int .i64 0, .int .i64 0, .int .i64 0, .int .i64 0, .int .i64 0, .int .i64 0, .int .i64 0, .int .i64 0, .int .i64 0, .int .i64 0, .int .i64 0, .int .i64 0, .int .i64 0, .int .i64 0, .int .i64 0, .int .i64 0, .int .i64 0, .int .i64 0, .int .i64 0, .int .i64 0, .int .i64 0, .int .i64 0, .int .i64 0, .int .i64 0, .slice none 0 0, .bool false] := by
  apply Array.ext'
  rw [finC_list, dC_zero]
  rfl
theorem full_upd (k : Nat) : updN (fullD k) k 14 = fullD (k + 1) := by
  funext j
  unfold updN fullD
  by_cases h : j = k
  · subst h; simp
  · rw [if_neg h]
    by_cases h2 : j < k
    · rw [if_pos h2, if_pos (by omega)]
    · rw [if_neg h2, if_neg (by omega)]
theorem attLs_succ (k : Nat) (l : List (Int × Int)) : attLs (k + 1) l = attLs k l ++ [attackersL l (k : Int)] := by unfold attLs; rw [List.range_succ, List.map_append]; rfl

/-- while the attackers are laid into the finder -/
structure CoS (w : World) (f n : Nat) (l : List (Int × Int)) (A : Option Addr) (c : Nat) (D : Nat → Nat) (v : Value) (wr : World) : Prop where
  fin : Fnd wr f n v D (.slice none 0 0) false
  c0 : wr.cell? ⟨w.heap.size, 0, none⟩ = some (.int .i64 (n : Int))
  c1 : wr.cell? ⟨w.heap.size, 1, none⟩ = some (.slice A l.length c)
  hb : Below w.heap.size w wr
  hg : w.heap.size < f
namespace CoS
variable {w wr w' : World} {f n c : Nat} {l : List (Int × Int)} {A : Option Addr} {D : Nat → Nat} {v : Value}
theorem lt (h : CoS w f n l A c D v wr) : f < wr.heap.size := Blk.lt h.fin
theorem below (h : CoS w f n l A c D v wr) (hb : Below wr.heap.size wr w') : CoS w f n l A c D v w' :=
  ⟨Blk.below h.fin hb h.lt, (hb.cell (lt_of_cell h.c0)).trans h.c0, (hb.cell (lt_of_cell h.c1)).trans h.c1, endB h.hb hb, h.hg⟩
theorem own (h : CoS w f n l A c D v wr) {u : Value} {B : Nat} {xs : List Value} (ho : OwnS wr B u xs) (hB : f < B) (hg : wr.grownBy w' u.ownBlock) : CoS w f n l A c D v w' := by
  have hne : ∀ g, g < B → some g ≠ u.ownBlock := fun g hlt e => by have := (World.ownsRow.lt ho g e.symm).1; omega
  have hgf := h.hg
  refine ⟨Blk.grown h.fin hg (hne f hB), hg.cell h.c0 (hne _ (by simp; omega)), hg.cell h.c1 (hne _ (by simp; omega)), ?_, h.hg⟩
  exact ⟨hg.os.trans h.hb.os, hg.tape.trans h.hb.tape, hg.output.trans h.hb.output, Nat.le_trans h.hb.size hg.size, fun k hk => (hg.block k (Nat.lt_of_lt_of_le hk h.hb.size) (hne k (by omega))).trans (h.hb.block k hk)⟩
theorem far (h : CoS w f n l A c D v wr) {D' : Nat → Nat} {v' : Value} (hF : Fnd w' f n v' D' (.slice none 0 0) false) (hg : wr.grownBy w' (some f)) : CoS w f n l A c D' v' w' := by
  have hgf := h.hg
  refine ⟨hF, hg.cell h.c0 (by simp; omega), hg.cell h.c1 (by simp; omega), ?_, h.hg⟩
  exact ⟨hg.os.trans h.hb.os, hg.tape.trans h.hb.tape, hg.output.trans h.hb.output, Nat.le_trans h.hb.size hg.size, fun k hk => (hg.block k (Nat.lt_of_lt_of_le hk h.hb.size) (by simp; omega)).trans (h.hb.block k hk)⟩
end CoS
theorem attLs_zero (l : List (Int × Int)) : attLs 0 l = [] := rfl

set_option maxRecDepth 100000 in
set_option maxHeartbeats 8000000 in
theorem complete_any (A : Option Addr) (N : Int) (l : List (Int × Int)) (c : Nat) (w : World) (hr : RP w A l) (hlen : l.length ≤ 100000) (hT : Tab w) :
    Calls Tryz.prog 35 #[.agg #[.int .i64 N, .slice A l.length c]] w (RetLE (compR N l) w) := by
  go_enter Tryz.func35, Tryz.ntmps35
  go_wp2_with fail
  obtain ⟨W0, hW, c0, c1, hb0, hlt0⟩ := boxed w 27 (.int .i64 N) (.slice A l.length c)
  rw [hW]
  clear hW
  refine (gValidate_any A N l c W0 (hr.below hb0) hlen).mono ?_
  rintro e w1 ⟨rfl, hb1⟩
  have hb01 := endB hb0 hb1
  by_cases hv : valE N l = 0
  case neg =>
    have hvb : (valE N l != 0) = true := by rw [bne_iff_ne]; exact hv
    have H := Lib.hid (compR_bad hv)
    clear hv
    go_wp2_with fail
    go_ret2
    rw [H.out]
    exact ⟨none, 0, rfl, RSo.nil _ _, fun _ => ⟨rfl, rfl⟩, hb01⟩
  case pos =>
  obtain ⟨n, rfl, hvl⟩ := vld_of_valE hv hlen
  have hvb : (valE n l != 0) = false := by rw [hv]; rfl
  have Hr := Lib.hid (compR_ok hv)
  clear hv
  have hn := hvl.1.1
  have d0 := (hb1.cell (lt_of_cell c0)).trans c0
  have d1 := (hb1.cell (lt_of_cell c1)).trans c1
  have hr1 := hr.below hb01
  have hT1 := hT.below hb01
  have hg1 : w.heap.size < w1.heap.size := Nat.lt_of_lt_of_le hlt0 hb1.size
  clear c0 c1
  go_upto_region 5 with fail
  obtain ⟨W2, hW2, hF0, hb2, hs2⟩ : ∃ W2, w1.alloc (.cells #[.int .i64 (n : Int), .slice none 0 0, .int .i64 0, .int .i64 0, .int .i64 0, .int .i64 0, .int .i64 0, .int .i64 0, .int .i64 0, .int .i64 0, .int .i64 0, .int .i64 0, .int .i64 0, .int .i64 0, .int .i64 0, .int .i64 0, .int .i64 0, .int .i64 0, .int .i64 0, .int .i64 0, .int .i64 0, .int .i64 0, .int .i64 0, .int .i64 0, .int .i64 0, .int .i64 0, .int .i64 0, .int .i64 0, .int .i64 0, .int .i64 0, .int .i64 0, .int .i64 0, .int .i64 0, .int .i64 0, .int .i64 0, .int .i64 0, .int .i64 0, .int .i64 0, .int .i64 0, .int .i64 0, .int .i64 0, .int .i64 0, .slice none 0 0, .bool false] 114) = W2 ∧ Fnd W2 w1.heap.size n (.slice none 0 0) (fullD 0) (.slice none 0 0) false ∧ Below w1.heap.size w1 W2 ∧ W2.heap.size = w1.heap.size + 1 := ⟨_, rfl, by unfold Fnd; rw [finC_zero]; exact Blk.new _ _ _, newB _ _, by simp⟩
  rw [hW2]
  clear hW2
  have e0 := (hb2.cell (lt_of_cell d0)).trans d0
  have e1 := (hb2.cell (lt_of_cell d1)).trans d1
  have hb02 := endB hb01 hb2
  have hT2 := hT1.below hb2
  generalize w1.heap.size = f at *
  go_wp2_with fail
  have hst0 : CoS w f n l A c (fullD 0) (.slice none 0 0) W2 := ⟨hF0, e0, e1, hb02, hg1⟩
  clear hF0 e0 e1 hb2 d0 d1 hr1 hT1 hb0 hb1 hb01 hb02 hT2 hlt0
  go_loopw [18] (fun j wr => ∃ (k : Nat) (v : Value) (xs : List Value), k ≤ n ∧ j = .int .i64 k ∧ CoS w f n l A c (fullD k) v wr ∧ Fou wr (f + 1) v xs (attLs k l)) (fun j _ => n - (intOf j).toNat)
  case atStart => exact ⟨0, .slice none 0 0, [], Nat.zero_le _, rfl, hst0, ⟨OwnS.nil _ _, by rw [attLs_zero]; exact OwnL.nil _ _⟩⟩
  case round =>
    obtain ⟨k, v, xs, hk, rfl, hst, hfo⟩ := hrel
    clear hst0
    by_cases hkn : k < n
    case pos =>
      have hk40 : k < 40 := by omega
      have hk40' : (k : Int) < 40 := by omega
      have hk0' : (0 : Int) ≤ (k : Int) := by omega
      have hxl : xs.length ≤ 1000000 := by rw [hfo.len, attLs_length]; omega
      have hkn' : (k : Int) < (n : Int) := by omega
      have Hst := Lib.hid hst; have Hfo := Lib.hid hfo
      clear hst hfo
      obtain ⟨L, hL⟩ : ∃ L, attackersL l (k : Int) = L := ⟨_, rfl⟩
      have HL := Lib.hid hL
      go_wp2_with fail
      refine wp_region_textZ [7, 8, 9, 12] (fun w' => CoS w f n l A c (fullD k) v w') (fun w' => Fou w' (f + 1) v xs (attLs k l)) (by kernel_rfl) (by kernel_rfl) (by kernel_rfl) (by kernel_rfl) (Hst.out.below (Below.refl _ _).drew) (Hfo.out.below (Below.refl _ _).drew) ?_
      repeat (first
        | (refine TxtZL.skip (by rfl) ?_; simp only [Act.put, List.setIfInBounds_toArray, List.set_cons_zero, List.set_cons_succ])
        | (refine TxtZL.take (by rfl) (by rfl) ?_; apply Exists.intro; refine ⟨fun w1 hS1 => ?_, ?_⟩; (focus ((have g1 := hS1.fin.c1); (have g2 := hS1.c0); (have g3 := hS1.c1); go_simp; with_reducible rfl)); simp only [Act.put, List.setIfInBounds_toArray, List.set_cons_zero, List.set_cons_succ])
        | (refine TxtZL.takeE' (by rfl) (by rfl) ?_; apply Exists.intro; refine ⟨fun w1 hS1 => ?_, ?_⟩; (focus ((have g1 := hS1.fin.c1); (have g2 := hS1.c0); (have g3 := hS1.c1); go_simp; with_reducible rfl)); simp only [Act.put, List.setIfInBounds_toArray, List.set_cons_zero, List.set_cons_succ]))
      refine TxtZL.call (f := 61) (args := #[.agg #[.int .i64 (n : Int), .slice A l.length c], .int .i64 (k : Int)]) (fun u => ∃ A' c', u = Value.slice A' L.length c') (fun u w' => Fou w' (f + 1) v xs (attLs k l) ∧ OwnI w' (f + 1) u L) (by rfl) (by rfl) ⟨_, none, 0, rfl⟩ (fun w1 hS1 hJ1 => by go_simp) (fun w1 hS1 hJ1 => ?_) ?_
      · refine (gAttackers_any A n l c k w1 (hr.below hS1.hb) hvl (hT.below hS1.hb)).mono ?_
        rintro e w' ⟨A', c', rfl, ho, _, _, hb⟩
        rw [HL.out] at ho ⊢
        exact ⟨_, rfl, hS1.below hb, ⟨A', c', rfl⟩, hJ1.below hb, OwnI.mono ho hS1.lt⟩
      rintro v28 ⟨A3, c3, rfl⟩
      simp only [Act.put, List.setIfInBounds_toArray, List.set_cons_zero, List.set_cons_succ]
      repeat (first
        | (refine TxtZL.skip (by rfl) ?_; simp only [Act.put, List.setIfInBounds_toArray, List.set_cons_zero, List.set_cons_succ])
        | (refine TxtZL.take (by rfl) (by rfl) ?_; apply Exists.intro; refine ⟨fun w1 hS1 => ?_, ?_⟩; (focus ((have g1 := hS1.fin.c1); (have g2 := hS1.c0); (have g3 := hS1.c1); go_simp; with_reducible rfl)); simp only [Act.put, List.setIfInBounds_toArray, List.set_cons_zero, List.set_cons_succ])
        | (refine TxtZL.takeE' (by rfl) (by rfl) ?_; apply Exists.intro; refine ⟨fun w1 hS1 => ?_, ?_⟩; (focus ((have g1 := hS1.fin.c1); (have g2 := hS1.c0); (have g3 := hS1.c1); go_simp; with_reducible rfl)); simp only [Act.put, List.setIfInBounds_toArray, List.set_cons_zero, List.set_cons_succ]))
      refine TxtZL.value (fun u => ∃ q, u = Value.slice (some ⟨q, 0, none⟩) 1 1) (fun u w' => ∃ X, w' = X.alloc (.cells #[.slice A3 L.length c3] 22) ∧ u = Value.slice (some ⟨X.heap.size, 0, none⟩) 1 1 ∧ Fou X (f + 1) v xs (attLs k l) ∧ OwnI X (f + 1) (.slice A3 L.length c3) L ∧ CoS w f n l A c (fullD k) v X) (by rfl) (by rfl) ⟨_, 0, rfl⟩ (fun w1 hS1 hJ1 => ?_) ?_
      · exact ⟨.slice (some ⟨w1.heap.size, 0, none⟩) 1 1, w1.alloc (.cells #[.slice A3 L.length c3] 22), by go_simp, hS1.below (newB _ _), ⟨_, rfl⟩, w1, rfl, rfl, hJ1.1, hJ1.2, hS1⟩
      rintro v29 ⟨q29, rfl⟩
      simp only [Act.put, List.setIfInBounds_toArray, List.set_cons_zero, List.set_cons_succ]
      refine TxtZL.eff (fun u => ∃ A' c', u = Value.slice A' (k + 1) c') (fun u w' => Fou w' (f + 1) u (xs ++ [.slice A3 L.length c3]) (attLs (k + 1) l)) (by rfl) (by rfl) ⟨_, none, 0, rfl⟩ (fun w1 hS1 hJ1 => ?_) ?_
      · obtain ⟨X, rfl, hq, hX, hIX, hSX⟩ := hJ1
        injection hq with hq; injection hq with hq; injection hq with hq _ _; subst hq
        refine Eff.of_list (ops := #[]) (by rfl) ?_
        refine wpList_appS2 (by rfl) _ _ (by rfl) X (f + 1) _ xs _ _ _ hX.s (by rfl) (by rfl) rfl hxl hSX.lt ?_
        intro v' w' ho hb hg hled
        have hol : OwnL w' (f + 1) (xs ++ [.slice A3 L.length c3]) (attLs (k + 1) l) := by
          rw [attLs_succ, HL.out]
          exact (hX.l.append hX.s hg).snoc (World.ownsRow.kept hIX hg (hIX.apart hX.s))
        obtain ⟨A', c', e', _⟩ := OwnS.forms ho hol
        rw [attLs_length] at e'
        exact ⟨rfl, v', rfl, hSX.own hX.s (Nat.lt_succ_self _) hg, ⟨A', c', e'⟩, ho, hol⟩
      rintro v30 ⟨A4, c4, rfl⟩
      simp only [Act.put, List.setIfInBounds_toArray, List.set_cons_zero, List.set_cons_succ]
      repeat (first
        | (refine TxtZL.skip (by rfl) ?_; simp only [Act.put, List.setIfInBounds_toArray, List.set_cons_zero, List.set_cons_succ])
        | (refine TxtZL.take (by rfl) (by rfl) ?_; apply Exists.intro; refine ⟨fun w1 hS1 => ?_, ?_⟩; (focus ((have g1 := hS1.fin.c1); (have g2 := hS1.c0); (have g3 := hS1.c1); go_simp; with_reducible rfl)); simp only [Act.put, List.setIfInBounds_toArray, List.set_cons_zero, List.set_cons_succ])
        | (refine TxtZL.takeE' (by rfl) (by rfl) ?_; apply Exists.intro; refine ⟨fun w1 hS1 => ?_, ?_⟩; (focus ((have g1 := hS1.fin.c1); (have g2 := hS1.c0); (have g3 := hS1.c1); go_simp; with_reducible rfl)); simp only [Act.put, List.setIfInBounds_toArray, List.set_cons_zero, List.set_cons_succ]))
      refine TxtZL.last (fun w' => CoS w f n l A c (fullD k) (.slice A4 (k + 1) c4) w' ∧ Fou w' (f + 1) (.slice A4 (k + 1) c4) (xs ++ [.slice A3 L.length c3]) (attLs (k + 1) l)) (by rfl) (by rfl) (fun w1 hS1 hJ1 => ?_) ?_
      · have g1 := hS1.fin.c1
        have z1 := hS1.fin.frozen 1
        exact Eff.skip (w' := w1.setCell ⟨f, 1, none⟩ (.slice A4 (k + 1) c4)) (by go_simp) ⟨hS1.far (hS1.fin.put1 _) (grownBy_setCell _ _ _ _), hJ1.kept (grownBy_setCell _ _ _ _) (Nat.lt_succ_self _)⟩
      rintro v0 w1 ⟨hE1, hE2⟩
      have hcd := hE1.fin.at_ hk40
      have hzd := hE1.fin.frozen (2 + k)
      have HE1 := Lib.hid hE1; have HE2 := Lib.hid hE2
      clear hE1 hE2 hL
      go_wp2_with fail
      go_roundw
      case rel =>
        refine ⟨k + 1, _, _, by omega, by go_num, HE1.out.far ?_ (grownBy_setCell _ _ _ _), HE2.out.kept (grownBy_setCell _ _ _ _) (Nat.lt_succ_self _)⟩
        have := HE1.out.fin.put hk40 14
        rw [full_upd] at this
        exact this
      case measure => simp [intOf]; omega
    case neg =>
    obtain rfl : k = n := by omega
    obtain ⟨AT, cA, rfl, hatt⟩ := att_of_own hfo.s hfo.l (Nat.lt_succ_self f)
    rw [attLs_length] at hst hfo
    have hfst : FSt wr f k wr.heap.size l AT cA (fullD k) (.slice none 0 0) (decide (([] : List (List Int)).length = 201)) := ⟨hst.fin, hatt, subD.refl _, hvl.1, Nat.le_refl _, hst.lt⟩
    have hff := find_any f k wr.heap.size l AT cA _ (fullD k) (.slice none 0 0) [] [] wr (Nat.le_refl _) hfst (by simp) ⟨OwnS.nil _ _, OwnL.nil _ _⟩
    have Hff := Lib.hid hff; have Hst := Lib.hid hst
    clear hff hfst hatt hfo hst
    go_wp2_with fail
    refine Hff.out.mono ?_
    rintro e w1 ⟨rfl, D', v', xs', hF, hs, hl, hfr, hled⟩
    rw [sol_full] at hF hl
    have hbw : Below w.heap.size w w1 := by
      have h1 := Hst.out.hb; have h2 := Hst.out.hg
      exact ⟨hfr.os.trans h1.os, hfr.tape.trans h1.tape, hfr.output.trans h1.output, Nat.le_trans h1.size hfr.size, fun g hg => (hfr.block g (Nat.lt_of_lt_of_le hg h1.size) (by omega) (by simp [Value.ownBlock])).trans (h1.block g hg)⟩
    have c43 := hF.c43
    have c42 := hF.c42
    have Hbw := Lib.hid hbw
    clear hfr hled hbw hF
    by_cases hlim : 200 < (compL k l).length
    · have hd : decide ((capL 201 [] (compL k l)).length = 201) = true := by unfold capL; rw [decide_eq_true_iff, List.nil_append, List.length_take]; omega
      rw [hd] at c43
      have Hc := Lib.hid (show compR k l = ([], 2) by rw [Hr.out, if_pos hlim])
      clear hlim hd hl hs c42
      go_wp2_with fail
      go_ret2
      rw [Hc.out]
      exact ⟨none, 0, rfl, RSo.nil _ _, fun _ => ⟨rfl, rfl⟩, Hbw.out⟩
    · have hcap : capL 201 [] (compL k l) = compL k l := by unfold capL; rw [List.nil_append, List.take_of_length_le (by omega)]
      have hd : decide ((compL k l).length = 201) = false := by rw [decide_eq_false_iff_not]; omega
      rw [hcap, hd] at c43
      rw [hcap] at hl
      have Hc := Lib.hid (show compR k l = (compL k l, 0) by rw [Hr.out, if_neg hlim])
      obtain ⟨A', c', rfl, hrs, hnil⟩ := OwnS.forms2 hs hl
      have Hrs := Lib.hid hrs; have Hnil := Lib.hid hnil
      clear hlim hd hl hs hcap hrs hnil
      go_wp2_with fail
      go_ret2
      rw [Hc.out]
      exact ⟨A', c', rfl, Hrs.out, Hnil.out, Hbw.out⟩
end Go.Proofs.YthkknlnfdckdfaaGreatDoor
