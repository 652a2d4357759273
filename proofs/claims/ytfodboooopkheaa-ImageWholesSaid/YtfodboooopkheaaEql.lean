/- two boots, and two blocks, held against one another. -/
import Derived.Test.YtfodboooopkheaaPoint
namespace Go.Proofs.Ytfodboooopkheaa
open Go.RowKit

theorem BT.eq_iff (a b : BT) : (a.area = b.area ∧ a.epoch = b.epoch ∧ a.size = b.size ∧ a.whole = b.whole) ↔ a = b := by
  obtain ⟨a1, a2, a3, a4⟩ := a
  obtain ⟨b1, b2, b3, b4⟩ := b
  constructor
  · rintro ⟨h1, h2, h3, h4⟩
    dsimp only at h1 h2 h3 h4
    subst h1; subst h2; subst h3; subst h4
    rfl
  · intro h
    injection h with h1 h2 h3 h4
    exact ⟨h1, h2, h3, h4⟩
instance : DecidableEq BT := fun a b => decidable_of_iff _ (BT.eq_iff a b)
theorem part_int31 {xs : Array Value} {t i : Nat} {q k : IntKind} {x : Int} (he : Try.prog.underlying t = some (.int q)) (w : World) (h : xs[i]? = some (.int k x)) : (part t xs i).run Try.prog w = .ok (.int k x) w := run_part_int he h
theorem BT.get0 (b : BT) : b.cells[0]? = some (.int .i64 b.area) := rfl
theorem BT.get1 (b : BT) : b.cells[1]? = some (.int .i64 b.epoch) := rfl
theorem BT.get2 (b : BT) : b.cells[2]? = some (.int .i64 b.size) := rfl
theorem part_whole (b : BT) (h : b.whole.length = 32) (w : World) : (part 28 b.cells 3).run Try.prog w = .ok (.agg (b.whole.map (Value.int .u8)).toArray) w := by
  have hc : Try.prog.cellsOf 28 = 32 := by kernel_rfl
  obtain ⟨i, hi⟩ : ∃ i, Try.prog.info? 28 = some i := by
    cases hq : Try.prog.info? 28 with
    | none => have := size28; rw [hq] at this; cases this
    | some i => exact ⟨i, rfl⟩
  have hs : i.size = 32 := by have := size28; rw [hi] at this; simpa using this
  have he : b.cells.extract 3 35 = (b.whole.map (Value.int .u8)).toArray := by
    apply Array.ext'
    rw [Array.toList_extract]
    show List.extract (Value.int .i64 b.area :: Value.int .i64 b.epoch :: Value.int .i64 b.size :: b.whole.map (Value.int .u8)) 3 35 = _
    rw [List.extract_eq_take_drop]
    exact List.take_of_length_le (by simp [h])
  unfold part isAgg
  simp [run_underlying Try.underlying28, sizeOf, typeInfo, hi, hs, he]
theorem fields31 : (Try.prog.fieldsOf 31).toList.map (fun f => (f.name, f.type, f.offset)) = [("Area", 3, 0), ("Epoch", 2, 1), ("Size", 3, 2), ("Whole", 28, 3)] := by kernel_rfl
theorem struct31 : Try.prog.underlying 31 = some (.struct (Try.prog.fieldsOf 31)) := by kernel_rfl
theorem held31 : Try.prog.stoodInHeld 31 = false := by kernel_rfl
theorem four_of {l : List Field} {a b c d : String × Nat × Nat} (h : l.map (fun f => (f.name, f.type, f.offset)) = [a, b, c, d]) : ∃ f0 f1 f2 f3, l = [f0, f1, f2, f3] := by
  match l, h with
  | [f0, f1, f2, f3], _ => exact ⟨_, _, _, _, rfl⟩
theorem eqFields_cons (w : World) (d : Nat) (xs ys : Array Value) (f : Field) (fs : List Field) (a b : Value) (r : Bool) (hn : f.name ≠ "_") (ha : (part f.type xs f.offset).run Try.prog w = .ok a w) (hb : (part f.type ys f.offset).run Try.prog w = .ok b w)
    (hr : (Op.equalIn d f.type a b).run Try.prog w = .ok r w) (q : Bool) (hq : (Op.eqFields d xs ys fs).run Try.prog w = .ok q w) : (Op.eqFields d xs ys (f :: fs)).run Try.prog w = .ok (r && q) w := by
  simp only [Op.eqFields, if_pos hn, Sem.run_bind, ha, hb, hr, Result.andThen_ok]
  cases r
  · rfl
  · exact hq
theorem run_eql_BT (a b : BT) (ha : a.whole.length = 32) (hb : b.whole.length = 32) (w : World) : (binOp .eql 31 (.agg a.cells) (.agg b.cells)).run Try.prog w = .ok (.bool (decide (a = b))) w := by
  obtain ⟨i0, hi0, hz0, hz1, hz2⟩ := info_parts info5
  have hc5 : Try.prog.cellsOf 5 = 1 := by kernel_rfl
  have hf := fields31
  obtain ⟨f0, f1, f2, f3, hL⟩ := four_of hf
  rw [run_eql_struct, run_equalIn_struct (P := Try.prog) w 9999 31 _ _ struct31 held31, hL]
  rw [hL] at hf
  simp only [List.map_cons, List.map_nil, List.cons.injEq, Prod.mk.injEq, and_true] at hf
  obtain ⟨⟨n0, t0, o0⟩, ⟨n1, t1, o1⟩, ⟨n2, t2, o2⟩, ⟨n3, t3, o3⟩⟩ := hf
  have e : (Op.eqFields 9999 a.cells b.cells [f0, f1, f2, f3]).run Try.prog w = .ok ((a.area == b.area) && ((a.epoch == b.epoch) && ((a.size == b.size) && ((decide (a.whole = b.whole)) && true)))) w := by
    refine eqFields_cons w 9999 _ _ f0 _ _ _ _ (by rw [n0]; decide) (by rw [t0, o0]; exact part_int31 Try.underlying3 w a.get0) (by rw [t0, o0]; exact part_int31 Try.underlying3 w b.get0) (by rw [t0]; exact run_equalIn_int w 9998 3 .i64 .i64 _ _ Try.underlying3) _ ?_
    refine eqFields_cons w 9999 _ _ f1 _ _ _ _ (by rw [n1]; decide) (by rw [t1, o1]; exact part_int31 Try.underlying2 w a.get1) (by rw [t1, o1]; exact part_int31 Try.underlying2 w b.get1) (by rw [t1]; exact run_equalIn_int w 9998 2 .i64 .i64 _ _ Try.underlying2) _ ?_
    refine eqFields_cons w 9999 _ _ f2 _ _ _ _ (by rw [n2]; decide) (by rw [t2, o2]; exact part_int31 Try.underlying3 w a.get2) (by rw [t2, o2]; exact part_int31 Try.underlying3 w b.get2) (by rw [t2]; exact run_equalIn_int w 9998 3 .i64 .i64 _ _ Try.underlying3) _ ?_
    refine eqFields_cons w 9999 _ _ f3 _ _ _ _ (by rw [n3]; decide) (by rw [t3, o3]; exact part_whole a ha w) (by rw [t3, o3]; exact part_whole b hb w) (by rw [t3]; exact run_equalIn_intArray w 28 5 i0 32 9997 .u8 .u8 Try.underlying28 Try.underlying5 hi0 hc5 a.whole b.whole ha hb) _ ?_
    rfl
  rw [e]
  have e2 : ((a.area == b.area) && ((a.epoch == b.epoch) && ((a.size == b.size) && ((decide (a.whole = b.whole)) && true)))) = decide (a = b) := by
    rw [Bool.eq_iff_iff, decide_eq_true_iff, ← BT.eq_iff]
    simp
  rw [e2]
  rfl
theorem run_neq_BT (a b : BT) (ha : a.whole.length = 32) (hb : b.whole.length = 32) (w : World) : (binOp .neq 31 (.agg a.cells) (.agg b.cells)).run Try.prog w = .ok (.bool (!decide (a = b))) w := by
  have h := run_eql_BT a b ha hb w
  rw [run_eql_struct] at h
  rw [run_neq_struct]
  generalize (Op.equalIn 10000 31 (Value.agg a.cells) (Value.agg b.cells)).run Try.prog w = r at *
  cases r with
  | ok x w' =>
    simp only [Result.andThen_ok, Result.ok.injEq, Value.bool.injEq] at h ⊢
    exact ⟨by rw [h.1], h.2⟩
  | halt x w' => simp [Result.andThen] at h
theorem run_neq_blocks (a b : List Int) (ha : a.length = 64) (hb : b.length = 64) (w : World) : (binOp .neq 38 (.agg (U8 a)) (.agg (U8 b))).run Try.prog w = .ok (.bool (!decide (a = b))) w := by
  obtain ⟨i0, hi0, hz0, hz1, hz2⟩ := info_parts info5
  have hc5 : Try.prog.cellsOf 5 = 1 := by kernel_rfl
  exact run_neq_ints (P := Try.prog) (w := w) (k := .u8) Try.underlying38 Try.underlying5 hi0 hc5 a b ha hb
theorem run_eql_sums (a b : List Int) (ha : a.length = 32) (hb : b.length = 32) (w : World) : (binOp .eql 28 (.agg (U8 a)) (.agg (U8 b))).run Try.prog w = .ok (.bool (decide (a = b))) w := by
  obtain ⟨i0, hi0, hz0, hz1, hz2⟩ := info_parts info5
  have hc5 : Try.prog.cellsOf 5 = 1 := by kernel_rfl
  exact run_eql_ints (P := Try.prog) (w := w) (k := .u8) Try.underlying28 Try.underlying5 hi0 hc5 a b ha hb
end Go.Proofs.Ytfodboooopkheaa
