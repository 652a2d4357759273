/- A walk's whole state in one word: a disk, variables that are known whole, and all that lay there before as it was. -/
import Derived.Test.YtfodboooopkheaaAwake2
namespace Go.Proofs.Ytfodboooopkheaa
open Go.RowKit

section
variable {P : Program} {ops : Array Oper} {rest : List Oper} {o : Oper} {a : Act} {w : World} {Q : Exit → Act → World → Prop}
/-- an operation on two values whose run is known -/
theorem wpList_bin_w (hw : Region.wanted o (yielded ops a.tmps) = true) (b : BinOp) (t t' : TypeId) (x y : Operand) (ho : o.op = .binOp b t x y t') (vx vy : Value) (hx : a.eval x = vx) (hy : a.eval y = vy) (r : Value)
    (hg : (eqGuard b t x y vx vy).run P w = .ok () w) (hr : (binOp b t vx vy).run P w = .ok r w) (h : wpList P ops Q rest (a.put o.dst r) w) : wpList P ops Q (o :: rest) a w := by
  refine wpList_step fun K hK => ?_
  rw [if_pos hw]
  unfold Oper.wp execOp
  simp only [ho, hx, hy, Sem.run_bind, Sem.run_pure, Result.andThen_ok, hg, hr]
  exact hK _ _ h
end
theorem size_B31 (b : BT) (h : b.wf) : (Try.prog.info? 31).map (·.size) = some b.cells.size := by rw [size_BT _ h.2.2.2.2.2.2.1]; exact size31
theorem size_B0 (b : BT) (h : b.wf) : b.cells.size = BT.zero.cells.size := by rw [size_BT _ h.2.2.2.2.2.2.1]; rfl
theorem size_L38 (l : List Int) (h : l.length = 64) : (Try.prog.info? 38).map (·.size) = some (U8 l).size := by rw [size_U8, h]; exact size38
theorem size_L0 (l : List Int) (h : l.length = 64) : (U8 l).size = (U8 Z64).size := by rw [size_U8, size_U8, h, len_Z64]
theorem eql_same (b : BT) (h : b.wf) (w : World) : (binOp .eql 31 (.agg b.cells) (.agg b.cells)).run Try.prog w = .ok (.bool true) w := by
  rw [run_eql_BT b b h.2.2.2.2.2.2.1 h.2.2.2.2.2.2.1 w]
  simp
theorem neq_same (b : BT) (h : b.wf) (w : World) : (binOp .neq 31 (.agg b.cells) (.agg b.cells)).run Try.prog w = .ok (.bool false) w := by
  rw [run_neq_BT b b h.2.2.2.2.2.2.1 h.2.2.2.2.2.2.1 w]
  simp
theorem guard31 (op : BinOp) (x y : Operand) (a b : BT) (w : World) : (eqGuard op 31 x y (.agg a.cells) (.agg b.cells)).run Try.prog w = .ok () w := run_eqGuard_agg w op 31 x y _ _ Try.eqGuardType31

abbrev Var := Nat × TypeId × Array Value
structure Keep (w0 w : World) (d B : Nat) (s : DS) (L : List Var) : Prop where
  below : Below w0.heap.size w0 w
  low : w0.heap.size ≤ B
  base : B ≤ w.heap.size
  at_ : At w d B s
  blk : ∀ q ∈ L, Blk w q.1 q.2.1 q.2.2 ∧ q.2.1 ≠ 78 ∧ q.2.1 ≠ 5 ∧ q.2.1 ≠ 3
section
variable {w0 w w1 w2 w3 w4 w' : World} {d B g : Nat} {s s' : DS} {L : List Var} {t : TypeId} {cs cs' z : Array Value}
theorem Keep.call (h : Keep w0 w d B s L) (hb : Below w.heap.size w w') : Keep w0 w' d B s L :=
  ⟨Below.on h.below hb, h.low, Nat.le_trans h.base hb.size, h.at_.below hb, fun q hq => ⟨(hb.block _ (h.blk q hq).1.lt).trans (h.blk q hq).1, (h.blk q hq).2⟩⟩
theorem Keep.drew (h : Keep w0 w d B s L) : Keep w0 w.drew d B s L :=
  ⟨h.below.drew, h.low, h.base, h.at_.drew, fun q hq => ⟨(h.blk q hq).1.drew, (h.blk q hq).2⟩⟩
theorem Keep.turn (h : Keep w0 w d B s L) (a : At w' d B s') (t : Turn B w w') : Keep w0 w' d B s' L :=
  ⟨h.below.trans (t.below.mono h.low), h.low, Nat.le_trans h.base t.size, a, fun q hq => ⟨t.blk _ _ _ (h.blk q hq).1 (h.blk q hq).2.1 (h.blk q hq).2.2.1 (h.blk q hq).2.2.2, (h.blk q hq).2⟩⟩
theorem Keep.add (h : Keep w0 w d B s L) (hg : Blk w g t cs) (h1 : t ≠ 78) (h2 : t ≠ 5) (h3 : t ≠ 3) : Keep w0 w d B s ((g, t, cs) :: L) :=
  ⟨h.below, h.low, h.base, h.at_, fun q hq => by
    rcases List.mem_cons.1 hq with rfl | hq
    · exact ⟨hg, h1, h2, h3⟩
    · exact h.blk q hq⟩
/-- a call's answer goes into a new variable -/
theorem Keep.var (h : Keep w0 w1 d B s L) (b2 : Below w1.heap.size w1 w2) (b3 : Below w2.heap.size w2 w3) (o4 : Only w3 w4 w2.heap.size) (hg : Blk w4 w2.heap.size t cs) (h1 : t ≠ 78) (h2 : t ≠ 5) (h3 : t ≠ 3) : Keep w0 w4 d B s ((w2.heap.size, t, cs) :: L) :=
  (h.call (below_var b2 b3 o4)).add hg h1 h2 h3
/-- the first variable is written, and no other has its type -/
theorem Keep.set (h : Keep w0 w d B s ((g, t, cs) :: L)) (hB : B ≤ g) (ho : Only w w' g) (hg : Blk w' g t cs') (hn : ∀ q ∈ L, q.1 ≠ g) : Keep w0 w' d B s ((g, t, cs') :: L) := by
  have h0 := h.blk _ (.head _)
  refine ⟨h.below.trans ((Turn.of_only ho hB).mono h.low), h.low, by rw [ho.size]; exact h.base, h.at_.only ho h0.1 h0.2.1 h0.2.2.1 h0.2.2.2, fun q hq => ?_⟩
  rcases List.mem_cons.1 hq with rfl | hq
  · exact ⟨hg, h0.2⟩
  · exact ⟨ho.blk (h.blk q (.tail _ hq)).1 (hn q hq), (h.blk q (.tail _ hq)).2⟩
theorem Keep.v0 {q : Var} (h : Keep w0 w d B s (q :: L)) : Blk w q.1 q.2.1 q.2.2 := (h.blk q (.head _)).1
theorem Keep.v1 {p q : Var} (h : Keep w0 w d B s (p :: q :: L)) : Blk w q.1 q.2.1 q.2.2 := (h.blk q (.tail _ (.head _))).1
theorem Keep.v2 {p p1 q : Var} (h : Keep w0 w d B s (p :: p1 :: q :: L)) : Blk w q.1 q.2.1 q.2.2 := (h.blk q (.tail _ (.tail _ (.head _)))).1
theorem Keep.v3 {p p1 p2 q : Var} (h : Keep w0 w d B s (p :: p1 :: p2 :: q :: L)) : Blk w q.1 q.2.1 q.2.2 := (h.blk q (.tail _ (.tail _ (.tail _ (.head _))))).1
theorem Keep.v4 {p p1 p2 p3 q : Var} (h : Keep w0 w d B s (p :: p1 :: p2 :: p3 :: q :: L)) : Blk w q.1 q.2.1 q.2.2 := (h.blk q (.tail _ (.tail _ (.tail _ (.tail _ (.head _)))))).1
end
end Go.Proofs.Ytfodboooopkheaa
