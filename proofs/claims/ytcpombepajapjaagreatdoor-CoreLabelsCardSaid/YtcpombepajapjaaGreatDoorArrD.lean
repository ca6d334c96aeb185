/- search.domains (an array of 40 labels) by value: read, written, compared. -/
import Derived.Test.YtcpombepajapjaaGreatDoorSch
import Derived.Deep.MidRow
import Derived.Deep.WholeRow
import Derived.ChangeKeysEq
namespace Go.Proofs.YtcpombepajapjaaGreatDoor
open Go.ChangeShapes Go.WideShapes Go.ChangeAt Go.RowKit

theorem info_dom : (Tryz.prog.info? 82).map (·.size) = some 40 := by kernel_rfl
theorem und_dom : Tryz.prog.underlying 82 = some (.array 40 3) := by kernel_rfl
theorem und_int0 : Tryz.prog.underlying 3 = some (.int .i64) := by kernel_rfl
theorem info_dom2 {D : Nat → Nat} : (Tryz.prog.info? 82).map (·.size) = some (dC D).size := by rw [dC_size]; exact info_dom
theorem guard_dom : Tryz.prog.eqGuardType Tryz.prog.depth 82 = false := by kernel_rfl
theorem dC_all (D : Nat → Nat) : (dC D).all (·.oneCell') = true := Array.all_eq_true_iff_forall_mem.2 fun v hv => dC_cell D v (by simpa using hv)
theorem dC_range {w : World} {b o : Nat} {D : Nat → Nat} (h : ∀ k, k < 40 → w.cell? ⟨b, o + k, none⟩ = some (.int .i64 (D k : Int))) : w.rangeAt b o (dC D).toList := fun j v hv => by
  rw [Array.getElem?_toList] at hv
  have hj : j < 40 := by
    rcases Nat.lt_or_ge j 40 with h | h
    · exact h
    · rw [dC_none h] at hv; cases hv
  rw [dC_at hj] at hv
  injection hv with hv
  rw [← hv]; exact h j hj

/-- the array is read -/
theorem wpList_loadD {ops : Array Oper} {rest : List Oper} {op : Oper} {a : Act} {w : World} {Q : Exit → Act → World → Prop} (hgd : op.guard = none) (x : Operand) (ho : op.op = .load 82 x)
    {b o : Nat} (hx : a.eval x = .pointer (some ⟨b, o, none⟩)) {D : Nat → Nat} (hc : ∀ k, k < 40 → w.cell? ⟨b, o + k, none⟩ = some (.int .i64 (D k : Int)))
    (h : wpList Tryz.prog ops Q rest (a.put op.dst (.agg (dC D))) w) : wpList Tryz.prog ops Q (op :: rest) a w := by
  refine wpList_load_mid hgd 82 x ho b o hx (dC D).toList _ (dC_range hc) und_dom rfl (by rw [Array.length_toList]; exact info_dom2) ?_
  simpa using h
/-- the array is written into the finder -/
theorem wpList_storeF {ops : Array Oper} {rest : List Oper} {op : Oper} {a : Act} {w : World} {Q : Exit → Act → World → Prop} (hgd : op.guard = none) (x y : Operand) (ho : op.op = .store 82 x y)
    {f n : Nat} {vat v : Value} {D : Nat → Nat} {full : Bool} (hF : Fnd w f n vat D v full) {E : Nat → Nat} (hx : a.eval x = .pointer (some ⟨f, 2, none⟩)) (hy : a.eval y = .agg (dC E))
    (h : ∀ w', Fnd w' f n vat E v full → w.grownBy w' (some f) → wpList Tryz.prog ops Q rest (a.put op.dst undef) w') : wpList Tryz.prog ops Q (op :: rest) a w := by
  refine wpList_store_mid hgd 82 x y ho f 2 (dC E) hx hy (fun j hj => ?_) info_dom2 (dC_all E) ?_
  · rw [dC_size] at hj
    rw [hF.at_ hj]; exact ⟨rfl, hF.frozen _⟩
  · obtain ⟨w', hr, h1, h2⟩ := hF.store Tryz.prog E
    have hr2 := run_storeCells_cells (P := Tryz.prog) f 2 (dC E).toList 0 w (fun j hj => by rw [Array.length_toList, dC_size] at hj; rw [hF.at_ hj]; rfl) (fun j _ => hF.frozen _) (fun v hv => dC_cell E v hv)
    simp only [Nat.add_zero] at hr2
    rw [hr] at hr2
    injection hr2 with _ hr2
    rw [← hr2]; exact h w' h1 h2
set_option maxRecDepth 100000 in
/-- .. or into a new variable -/
theorem wpList_storeN {ops : Array Oper} {rest : List Oper} {op : Oper} {a : Act} {w : World} {Q : Exit → Act → World → Prop} (hgd : op.guard = none) (x y : Operand) (ho : op.op = .store 82 x y)
    {Z : Array Value} (hZ : Z.size = 40) {E : Nat → Nat} (hx : a.eval x = .pointer (some ⟨w.heap.size, 0, none⟩)) (hy : a.eval y = .agg (dC E))
    (h : wpList Tryz.prog ops Q rest (a.put op.dst undef) (w.alloc (.cells (dC E) 82))) : wpList Tryz.prog ops Q (op :: rest) a (w.alloc (.cells Z 82)) := by
  refine wpList_plain hgd fun K hK => ?_
  have hst := run_storeAt_new (P := Tryz.prog) w 82 Z (dC E) info_dom2 (by rw [hZ, dC_size]) (dC_all E)
  unfold Oper.wp execOp
  simp only [ho, hx, hy, Sem.run_bind, hst, Result.andThen_ok, Sem.run_pure]
  exact hK _ _ h
/-- two arrays are compared -/
theorem eqItems_dC (A B : Nat → Nat) (w : World) (d : Nat) : ∀ (is : List Nat), (∀ k ∈ is, k < 40) → (Op.eqItems (d + 1) 3 1 (dC A) (dC B) is).run Tryz.prog w = .ok (is.all fun k => A k == B k) w
  | [], _ => by simp [Op.eqItems]
  | k :: is, h => by
    have hk := h k (List.mem_cons_self ..)
    have ih := eqItems_dC A B w d is fun j hj => h j (List.mem_cons_of_mem _ hj)
    have hp : ∀ D : Nat → Nat, (part 3 (dC D) (k * 1)).run Tryz.prog w = .ok (.int .i64 (D k : Int)) w := fun D => by
      unfold part
      have h1 : (isAgg 3).run Tryz.prog w = .ok false w := by
        unfold isAgg
        rw [Sem.run_bind, run_underlying und_int0 w]
        rfl
      rw [Sem.run_bind, h1]
      simp [dC_at hk]
    have he : (Op.equalIn (d + 1) 3 (.int .i64 (A k : Int)) (.int .i64 (B k : Int))).run Tryz.prog w = .ok ((A k : Int) == (B k : Int)) w := run_equalIn_int w d 3 .i64 .i64 _ _ und_int0
    have hc : ((A k : Int) == (B k : Int)) = (A k == B k) := by rw [Bool.eq_iff_iff, beq_iff_eq, beq_iff_eq]; omega
    unfold Op.eqItems
    rw [Sem.run_bind, hp A]
    simp only [Result.andThen_ok]
    rw [Sem.run_bind, hp B]
    simp only [Result.andThen_ok]
    rw [Sem.run_bind, he, hc]
    simp only [Result.andThen_ok, List.all_cons]
    cases A k == B k
    · simp
    · simpa using ih
set_option maxRecDepth 100000 in
theorem run_eqD (A B : Nat → Nat) (w : World) : (Op.equal 82 (.agg (dC A)) (.agg (dC B))).run Tryz.prog w = .ok ((List.range 40).all fun k => A k == B k) w := by
  obtain ⟨i, hi, _⟩ := info_parts info_int
  have h1 : Tryz.prog.cellsOf 3 = 1 := by kernel_rfl
  show (Op.equalIn 10000 _ _ _).run _ _ = _
  rw [run_equalIn_array w 9999 _ _ und_dom hi, h1]
  exact eqItems_dC A B w 9998 _ fun k hk => List.mem_range.1 hk
theorem wpList_eqD {ops : Array Oper} {rest : List Oper} {op : Oper} {a : Act} {w : World} {Q : Exit → Act → World → Prop} (hgd : op.guard = none) (x y : Operand) {yt : TypeId} (ho : op.op = .binOp .eql 82 x y yt)
    {A B : Nat → Nat} (hx : a.eval x = .agg (dC A)) (hy : a.eval y = .agg (dC B))
    (h : wpList Tryz.prog ops Q rest (a.put op.dst (.bool ((List.range 40).all fun k => A k == B k))) w) : wpList Tryz.prog ops Q (op :: rest) a w := by
  refine wpList_plain hgd fun K hK => ?_
  have hg : (eqGuard .eql 82 x y (.agg (dC A)) (.agg (dC B))).run Tryz.prog w = .ok () w := by
    unfold eqGuard
    simp
  have hb : (binOp .eql 82 (.agg (dC A)) (.agg (dC B))).run Tryz.prog w = .ok (.bool ((List.range 40).all fun k => A k == B k)) w := by
    unfold binOp
    rw [Sem.run_bind, run_eqD]
    rfl
  unfold Oper.wp execOp
  simp only [ho, hx, hy]
  rw [Sem.run_bind, Sem.run_bind, hg]
  simp only [Result.andThen_ok, hb]
  exact hK _ _ h
theorem len_dom : Tryz.prog.arrayLen 82 = 40 := by kernel_rfl
theorem run_sliceD (f : Nat) {k : Nat} (hk : k ≤ 40) (w : World) : (Instr.sliceAt 82 (.pointer (some ⟨f, 2, none⟩)) none (some (.int .i64 (k : Int))) none).run Tryz.prog w = .ok (.slice (some ⟨f, 2, none⟩) k 40) w := by
  have ht : Tryz.prog.underlying 82 = some (.array (Tryz.prog.arrayLen 82) (Tryz.prog.elem 82)) := by kernel_rfl
  have he : Tryz.prog.elem 82 = 3 := by kernel_rfl
  obtain ⟨i, hi, _, hz, _⟩ := info_parts info_int
  have hsz : (sizeOf 3).run Tryz.prog w = .ok 1 w := by simp [sizeOf, typeInfo, hi, hz]
  rw [run_sliceAt_array_h w _ _ ht .i64 (k : Int) (by omega) (by rw [len_dom]; omega), he, hsz, len_dom]
  simp [slicedAt, Result.andThen, Addr.add]
theorem run_loadD {b o : Nat} {D : Nat → Nat} (w : World) (hc : ∀ k, k < 40 → w.cell? ⟨b, o + k, none⟩ = some (.int .i64 (D k : Int))) : (Instr.loadAt 82 (.pointer (some ⟨b, o, none⟩))).run Tryz.prog w = .ok (.agg (dC D)) w := by
  have := run_loadAt_mid (P := Tryz.prog) w b o 82 (dC D).toList _ (dC_range hc) und_dom rfl (by rw [Array.length_toList]; exact info_dom2)
  simpa using this
theorem run_guardD (A B : Nat → Nat) (w : World) (x y : Operand) : (eqGuard .eql 82 x y (.agg (dC A)) (.agg (dC B))).run Tryz.prog w = .ok () w := by
  unfold eqGuard
  simp
theorem run_binD (A B : Nat → Nat) (w : World) : (binOp .eql 82 (.agg (dC A)) (.agg (dC B))).run Tryz.prog w = .ok (.bool ((List.range 40).all fun k => A k == B k)) w := by
  unfold binOp
  rw [Sem.run_bind, run_eqD]
  rfl
theorem exec_loadD {ev : Operand → Value} {op : Oper} (x : Operand) (ho : op.op = .load 82 x) {b o : Nat} (hx : ev x = .pointer (some ⟨b, o, none⟩)) {D : Nat → Nat} {w : World} (hc : ∀ k, k < 40 → w.cell? ⟨b, o + k, none⟩ = some (.int .i64 (D k : Int))) : (execOp ev op).run Tryz.prog w = .ok (.value (.agg (dC D))) w := by
  unfold execOp
  simp only [ho, hx, Sem.run_bind, run_loadD w hc, Result.andThen_ok, Sem.run_pure]
theorem exec_eqD {ev : Operand → Value} {op : Oper} (x y : Operand) {yt : TypeId} (ho : op.op = .binOp .eql 82 x y yt) {A B : Nat → Nat} (hx : ev x = .agg (dC A)) (hy : ev y = .agg (dC B)) {w : World} {q : Bool} (hq : ((List.range 40).all fun k => A k == B k) = q) : (execOp ev op).run Tryz.prog w = .ok (.value (.bool q)) w := by
  subst hq
  unfold execOp
  simp only [ho, hx, hy, Sem.run_bind, run_guardD, run_binD, Result.andThen_ok, Sem.run_pure]
end Go.Proofs.YtcpombepajapjaaGreatDoor
