/- A region that draws its order, where each operation, once what it waits for is done, writes a value that is known ahead: the frame behind it is as if all had been done in the text's order. -/
import Derived.Test.YtfodboooopkheaaFlow
namespace Go.Proofs.Ytfodboooopkheaa
open Go.RowKit

def dstOf (ops : Array Oper) (i : Nat) : Option Tmp := (ops[i]?).bind (·.dst)
/-- the frame behind the first k operations, in the text's order -/
def putTo (ops : Array Oper) (vals : Nat → Value) (a : Act) : Nat → Act
  | 0 => a
  | k + 1 => (putTo ops vals a k).put (dstOf ops k) (vals k)
def distinct (ops : Array Oper) : Bool := (List.range ops.size).all fun i => (List.range ops.size).all fun j => decide (i = j) || (dstOf ops i).isNone || decide (dstOf ops i ≠ dstOf ops j)
structure Held (ops : Array Oper) (vals : Nat → Value) (a0 : Act) (L : Nat → Bool) (a : Act) : Prop where
  defers : a.defers = a0.defers
  size : a.tmps.size = a0.tmps.size
  rest : ∀ s, (∀ j, L j = true → dstOf ops j ≠ some s) → a.tmps[s]? = a0.tmps[s]?
  done : ∀ j s, L j = true → dstOf ops j = some s → s < a0.tmps.size → a.tmps[s]? = some (vals j)
section
variable {ops : Array Oper} {vals : Nat → Value} {a0 a : Act} {L : Nat → Bool}
theorem Held.put (hd : distinct ops = true) (h : Held ops vals a0 L a) (i : Nat) (hi : i < ops.size) (hL : ∀ j, ops.size ≤ j → L j = false) (hLi : L i = false) : Held ops vals a0 (setL L i) (a.put (dstOf ops i) (vals i)) := by
  have hdd : ∀ j, j < ops.size → i ≠ j → dstOf ops i ≠ none → dstOf ops i ≠ dstOf ops j := fun j hj hij hn => by
    have h1 := List.all_eq_true.1 (List.all_eq_true.1 hd i (List.mem_range.2 hi)) j (List.mem_range.2 hj)
    simp only [Bool.or_eq_true, decide_eq_true_eq, Option.isNone_iff_eq_none] at h1
    rcases h1 with (h1 | h1) | h1
    · exact absurd h1 hij
    · exact absurd h1 hn
    · exact h1
  cases hs : dstOf ops i with
  | none =>
    refine ⟨h.defers, h.size, fun s hj => h.rest s fun j hLj => hj j (by unfold setL; split <;> simp_all), fun j s hj hds => ?_⟩
    unfold setL at hj
    by_cases hji : j = i
    · subst hji; rw [hs] at hds; cases hds
    · rw [if_neg hji] at hj; exact h.done j s hj hds
  | some t =>
    refine ⟨h.defers, by show (a.tmps.setIfInBounds t (vals i)).size = _; rw [Array.size_setIfInBounds]; exact h.size, fun s hj => ?_, fun j s hj hds hsz => ?_⟩
    · show (a.tmps.setIfInBounds t (vals i))[s]? = _
      have hts : t ≠ s := fun e => hj i (by unfold setL; simp) (by rw [hs, e])
      rw [Array.getElem?_setIfInBounds, if_neg hts]
      exact h.rest s fun j hLj => hj j (by unfold setL; split <;> simp_all)
    · show (a.tmps.setIfInBounds t (vals i))[s]? = _
      by_cases hji : j = i
      · subst hji
        rw [hs] at hds
        injection hds with hds
        subst hds
        rw [Array.getElem?_setIfInBounds, if_pos rfl, if_pos (by rw [h.size]; exact hsz)]
      · unfold setL at hj
        rw [if_neg hji] at hj
        have hjs : j < ops.size := by
          rcases Nat.lt_or_ge j ops.size with hlt | hge
          · exact hlt
          · rw [hL j hge] at hj; cases hj
        have hne := hdd j hjs (Ne.symm hji) (by rw [hs]; simp)
        rw [hs, hds] at hne
        rw [Array.getElem?_setIfInBounds, if_neg (fun e => hne (by rw [e]))]
        exact h.done j s hj hds hsz
theorem held_putTo (hd : distinct ops = true) (a0 : Act) : ∀ k, k ≤ ops.size → Held ops vals a0 (fun j => decide (j < k)) (putTo ops vals a0 k)
  | 0, _ => ⟨rfl, rfl, fun _ _ => rfl, fun j s hj => by simp at hj⟩
  | k + 1, hk => by
    have h := held_putTo hd a0 k (by omega)
    have h2 := h.put hd k (by omega) (fun j hj => by simp; omega) (by simp)
    have e : setL (fun j => decide (j < k)) k = fun j => decide (j < k + 1) := by
      funext j
      unfold setL
      split
      · subst_vars; simp
      · show decide (j < k) = decide (j < k + 1)
        rw [decide_eq_decide]; omega
    rw [e] at h2
    exact h2
theorem Held.all (hd : distinct ops = true) (h : Held ops vals a0 L a) (hall : ∀ i, i < ops.size → L i = true) (hL : ∀ j, ops.size ≤ j → L j = false) : a = putTo ops vals a0 ops.size := by
  have h2 := held_putTo (vals := vals) hd a0 ops.size (Nat.le_refl _)
  have e : L = fun j => decide (j < ops.size) := by
    funext j
    rcases Nat.lt_or_ge j ops.size with hj | hj
    · rw [hall j hj]; simp [hj]
    · rw [hL j hj]; simp; omega
  subst e
  generalize putTo ops vals a0 ops.size = b at *
  obtain ⟨bt, bd⟩ := b
  obtain ⟨at_, ad⟩ := a
  have e1 : ad = bd := h.defers.trans h2.defers.symm
  have e2 : at_ = bt := by
    apply Array.ext_getElem?
    intro s
    by_cases hs : s < a0.tmps.size
    · by_cases hx : ∃ j, j < ops.size ∧ dstOf ops j = some s
      · obtain ⟨j, hj, hds⟩ := hx
        have d1 := h.done j s (by simpa using hj) hds hs
        have d2 := h2.done j s (by simpa using hj) hds hs
        exact d1.trans d2.symm
      · have hno : ∀ j, decide (j < ops.size) = true → dstOf ops j ≠ some s := fun j hj hds => hx ⟨j, by simpa using hj, hds⟩
        exact (h.rest s hno).trans (h2.rest s hno).symm
    · have s1 := h.size
      have s2 := h2.size
      rw [Array.getElem?_eq_none (by show at_.size ≤ s; have : at_.size = a0.tmps.size := s1; omega), Array.getElem?_eq_none (by show bt.size ≤ s; have : bt.size = a0.tmps.size := s2; omega)]
  rw [e1, e2]
theorem Held.old (h : Held ops vals a0 L a) (s : Nat) (hs : (List.range ops.size).all (fun j => decide (dstOf ops j ≠ some s)) = true) (hL : ∀ j, ops.size ≤ j → L j = false) : a.eval (.tmp s) = a0.eval (.tmp s) := by
  show a.tmps.getD s undef = a0.tmps.getD s undef
  have := h.rest s fun j hj => by
    have hjs : j < ops.size := by
      rcases Nat.lt_or_ge j ops.size with hlt | hge
      · exact hlt
      · rw [hL j hge] at hj; cases hj
    simpa using List.all_eq_true.1 hs j (List.mem_range.2 hjs)
  rw [Array.getD_eq_getD_getElem?, Array.getD_eq_getD_getElem?, this]
theorem Held.new (h : Held ops vals a0 L a) (j s : Nat) (hL : L j = true) (hd : dstOf ops j = some s) (hs : s < a0.tmps.size) : a.eval (.tmp s) = vals j := by
  show a.tmps.getD s undef = vals j
  rw [Array.getD_eq_getD_getElem?, h.done j s hL hd hs]
  rfl
end
/-- .. all of them, by where they write -/
def putAll (vals : Nat → Value) : Nat → List (Option Tmp) → Act → Act
  | _, [], a => a
  | i, d :: ds, a => putAll vals (i + 1) ds (a.put d (vals i))
theorem putAll_snoc (vals : Nat → Value) (d : Option Tmp) : ∀ (ds : List (Option Tmp)) (i : Nat) (a : Act), putAll vals i (ds ++ [d]) a = (putAll vals i ds a).put d (vals (i + ds.length))
  | [], _, _ => rfl
  | _ :: ds, i, a => by
    simp only [List.cons_append, putAll, List.length_cons]
    rw [putAll_snoc vals d ds (i + 1)]
    congr 2
    omega
theorem putTo_all (ops : Array Oper) (vals : Nat → Value) (a : Act) (ds : List (Option Tmp)) (h : ops.toList.map (·.dst) = ds) : ∀ k, k ≤ ops.size → putTo ops vals a k = putAll vals 0 (ds.take k) a
  | 0, _ => rfl
  | k + 1, hk => by
    have hl : ds.length = ops.size := by rw [← h]; simp
    have hd : dstOf ops k = ds[k]'(by omega) := by
      subst h
      unfold dstOf
      rw [Array.getElem?_eq_getElem (show k < ops.size by omega)]
      simp
    rw [List.take_succ_eq_append_getElem (by omega), putAll_snoc, ← putTo_all ops vals a ds h k (by omega), ← hd]
    show (putTo ops vals a k).put (dstOf ops k) (vals k) = _
    congr 2
    rw [List.length_take]
    omega
theorem wp_region_vals {P : Program} {ops : Array Oper} {Q : Exit → Act → World → Prop} {id : Nat} {a0 : Act} {w : World} (hm : P.follows .mixedOrders = true) (hf : forward ops = true) (hg : (ops.toList.all fun o => o.guard.isNone) = true) (hd : distinct ops = true)
    (ds : List (Option Tmp)) (hds : ops.toList.map (·.dst) = ds) (vals : Nat → Value) (J : (Nat → Bool) → World → Prop) (h0 : J (fun _ => false) w.drew)
    (hstep : ∀ (i : Nat) (o : Oper), ops[i]? = some o → ∀ L a w, Held ops vals a0 L a → (∀ j, ops.size ≤ j → L j = false) → J L w → L i = false → (∀ e ∈ o.after.toList, Region.binds .any e = true → L e.on = true) → o.wp P a w (fun a' w' => a' = a.put o.dst (vals i) ∧ J (setL L i) w') Q)
    (hend : ∀ w' L, (∀ i, i < ops.size → L i = true) → J L w' → Q .normal (putAll vals 0 ds a0) w') : (Code.region id ops true).wp P Q a0 w := by
  refine wp_region_flow_plain hm hf hg (fun L a w => Held ops vals a0 L a ∧ (∀ j, ops.size ≤ j → L j = false) ∧ J L w) ⟨⟨rfl, rfl, fun _ _ => rfl, fun _ _ h => by cases h⟩, fun _ _ => rfl, h0⟩ ?_ ?_
  · rintro i o ho L a w ⟨hH, hL, hJ⟩ hLi hdep
    have hi : i < ops.size := by
      rcases Nat.lt_or_ge i ops.size with h | h
      · exact h
      · rw [Array.getElem?_eq_none h] at ho; cases ho
    have hdst : dstOf ops i = o.dst := by unfold dstOf; rw [ho]; rfl
    refine Oper.wp_mono ?_ (hstep i o ho L a w hH hL hJ hLi hdep)
    rintro a' w' ⟨rfl, hJ'⟩
    refine ⟨hdst ▸ hH.put hd i hi hL hLi, fun j hj => ?_, hJ'⟩
    unfold setL
    rw [if_neg (by omega)]
    exact hL j hj
  · rintro L a w ⟨hH, hL, hJ⟩ hall
    rw [hH.all hd hall hL, putTo_all ops vals a0 ds hds ops.size (Nat.le_refl _), List.take_of_length_le (by rw [← hds]; simp)]
    exact hend w L hall hJ
/-! ### One operation, its operands known -/
section
variable {P : Program} {o : Oper} {a : Act} {w : World} {K : Act → World → Prop} {Q : Exit → Act → World → Prop}
theorem op_move (x : Operand) (ho : o.op = .move x) (v : Value) (hx : a.eval x = v) (h : K (a.put o.dst v) w) : o.wp P a w K Q := by
  unfold Oper.wp
  simp only [execOp, ho, hx]
  exact h
theorem op_assign (x : Operand) (ho : o.op = .assign x) (v : Value) (hx : a.eval x = v) (h : K (a.put o.dst v) w) : o.wp P a w K Q := by
  unfold Oper.wp
  simp only [execOp, ho, hx]
  exact h
theorem op_bin (b : BinOp) (t t' : TypeId) (x y : Operand) (ho : o.op = .binOp b t x y t') (vx vy : Value) (hx : a.eval x = vx) (hy : a.eval y = vy) (r : Value) (hg : (eqGuard b t x y vx vy).run P w = .ok () w) (hr : (binOp b t vx vy).run P w = .ok r w) (h : K (a.put o.dst r) w) : o.wp P a w K Q := by
  unfold Oper.wp execOp
  simp only [ho, hx, hy, Sem.run_bind, Sem.run_pure, Result.andThen_ok, hg, hr]
  exact h
theorem op_build1 (t : TypeId) (x : Operand) (ho : o.op = .buildSlice t 1 #[(0, x)]) (v u : Value) (w' : World) (hx : a.eval x = v) (hr : (Instr.buildSlice t 1 #[(0, v)]).run P w = Result.ok u w') (h : K (a.put o.dst u) w') : o.wp P a w K Q := by
  unfold Oper.wp execOp
  have e : (Array.map (fun p : Nat × Operand => (p.1, a.eval p.2)) #[(0, x)]) = #[(0, v)] := by simp [hx]
  simp only [ho, Sem.run_bind, Sem.run_pure]
  rw [show (Array.map (fun (x : Nat × Operand) => match x with | (i, x) => (i, a.eval x)) #[(0, x)]) = #[(0, v)] from e, hr]
  exact h
theorem op_field (t i : Nat) (x : Operand) (ho : o.op = .fieldAddr t x i) (v u : Value) (hx : a.eval x = v) (hr : (Instr.fieldAt t v i).run P w = Result.ok u w) (h : K (a.put o.dst u) w) : o.wp P a w K Q := by
  unfold Oper.wp
  simp only [execOp, ho, hx, Sem.run_bind, hr, Result.andThen_ok, Sem.run_pure]
  exact h
theorem run_enter {f : FuncId} {fn : Func} (hf : P.funcs[f]? = some fn) (hname : (fn.name == "runtime.NumGoroutine") = false) (hb : fn.body.isNone = false) (args : Array Value) (w : World) : (callFunc f args).run P w = .ok (.enter f args) w := by
  have h1 : fn.name ≠ "runtime.NumGoroutine" := by simpa using hname
  cases hc : fn.body with
  | none => rw [hc] at hb; cases hb
  | some c => simp [callFunc, hf, h1, hc]
theorem op_call1 {f : FuncId} {fn : Func} (hf : P.funcs[f]? = some fn) (hname : (fn.name == "runtime.NumGoroutine") = false) (hb : fn.body.isNone = false) (x : Operand) (ts : Array TypeId) (ho : o.op = .call { callee := .value (.func f), args := #[x], argTypes := ts }) (v : Value) (hx : a.eval x = v) (R : Ending → World → Prop) (hc : Calls P f #[v] w R)
    (hR : ∀ e w', R e w' → ∃ u, e = .returned u ∧ K (a.put o.dst u) w') : o.wp P a w K Q := by
  have hr : (execOp a.eval o).run P w = .ok (.enter f #[v]) w := by
    unfold execOp
    simp only [ho]
    subst hx
    simp [resolve, Act.eval, Deferred.ofValue, invoke, run_enter hf hname hb]
  unfold Oper.wp
  rw [hr, Oper.upon_enter]
  refine hc.mono fun e w' h => ?_
  obtain ⟨u, rfl, hK⟩ := hR e w' h
  exact hK
end
end Go.Proofs.Ytfodboooopkheaa
