/- Laws at operations: a map from whole numbers that the call itself made (lookup, store, clear), two arrays held against one another, a value of many cells stored into a block that is known whole, a copy of bytes. -/
import Derived.Test.YtfodboooopkheaaBase
namespace Go.Proofs.Ytfodboooopkheaa
open Go.RowKit

/-! ### A map from whole numbers -/
def getI {α : Type} : List (Int × α) → Int → Option α
  | [], _ => none
  | p :: r, n => if n = p.1 then some p.2 else getI r n
def putI {α : Type} : List (Int × α) → Int → α → List (Int × α)
  | [], n, v => [(n, v)]
  | p :: r, n, v => if n = p.1 then (p.1, v) :: r else p :: putI r n v

theorem getI_map {α β : Type} (f : α → β) (l : List (Int × α)) (n : Int) : getI (l.map fun p => (p.1, f p.2)) n = (getI l n).map f := by
  induction l with
  | nil => rfl
  | cons p r ih => simp only [List.map_cons, getI]; split <;> simp_all
theorem putI_map {α β : Type} (f : α → β) (l : List (Int × α)) (n : Int) (v : α) : putI (l.map fun p => (p.1, f p.2)) n (f v) = (putI l n v).map fun p => (p.1, f p.2) := by
  induction l with
  | nil => rfl
  | cons p r ih => simp only [List.map_cons, putI]; split <;> simp_all

def MapI (w : World) (b : Nat) (es : List (Int × Value)) : Prop :=
  ∃ ents clk, w.heap[b]? = some (.map ents clk) ∧ ents.toList.map (fun e => (e.key, e.val)) = es.map fun p => (Value.int .i64 p.1, p.2)

theorem MapI.drew {w : World} {b : Nat} {es : List (Int × Value)} (h : MapI w b es) : MapI w.drew b es := h
theorem MapI.alloc {w : World} {b : Nat} {es : List (Int × Value)} (h : MapI w b es) (o : Obj) : MapI (w.alloc o) b es := by
  obtain ⟨x, c, hh, he⟩ := h
  exact ⟨x, c, (Below.heap_alloc w o b (lt_of_heap hh)).trans hh, he⟩
theorem MapI.lt {w : World} {b : Nat} {es : List (Int × Value)} (h : MapI w b es) : b < w.heap.size := by obtain ⟨_, _, h, _⟩ := h; exact lt_of_heap h
theorem MapI.kept {w w' : World} {b : Nat} {es : List (Int × Value)} {F : Nat → Prop} (h : MapI w b es) (hk : Kept w w' F) (hF : ¬ F b) : MapI w' b es := by
  obtain ⟨x, c, hh, he⟩ := h
  exact ⟨x, c, hk.heap hh hF, he⟩
theorem MapI.only {w w' : World} {b g : Nat} {es : List (Int × Value)} (h : MapI w b es) (hk : Only w w' g) (hg : b ≠ g) : MapI w' b es := by
  obtain ⟨x, c, hh, he⟩ := h
  exact ⟨x, c, (hk.block b hg).trans hh, he⟩
theorem MapI.ne_blk {w : World} {b g : Nat} {es : List (Int × Value)} {t : TypeId} {cs : Array Value} (h : MapI w b es) (hg : Blk w g t cs) : b ≠ g := by
  rintro rfl
  obtain ⟨x, c, hh, _⟩ := h
  unfold Blk at hg
  rw [hh] at hg
  cases hg
theorem MapI.ne_own {w : World} {b : Nat} {es : List (Int × Value)} {base : Nat} {e : TypeId} {size n : Nat} {v : Value} {xs : List Value} (h : MapI w b es) (ho : w.ownsRow base e size v n xs) : v.ownBlock ≠ some b := by
  obtain ⟨x, c, hh, _⟩ := h
  exact own_heap_ne ho hh (by intro c t f h; cases h)

/-- where a key stands, counted from i on -/
def ixI : List (Int × Value) → Int → Nat → Option (Nat × Value)
  | [], _, _ => none
  | p :: r, n, i => if n = p.1 then some (i, p.2) else ixI r n (i + 1)
theorem ixI_get (l : List (Int × Value)) (n : Int) : ∀ i, (ixI l n i).map (·.2) = getI l n := by
  induction l with
  | nil => intro i; rfl
  | cons p r ih => intro i; simp only [ixI, getI]; split <;> simp_all
theorem ixI_put (l : List (Int × Value)) (n : Int) (v : Value) : ∀ i,
    (∀ j u, ixI l n i = some (j, u) → i ≤ j ∧ (l[j - i]?).map (·.1) = some n ∧ putI l n v = l.modify (j - i) (fun p => (p.1, v))) ∧ (ixI l n i = none → putI l n v = l ++ [(n, v)]) := by
  induction l with
  | nil => intro i; exact ⟨(by intro j u h; cases h), fun _ => rfl⟩
  | cons p r ih =>
    intro i
    simp only [ixI, putI]
    by_cases h : n = p.1
    · rw [if_pos h, if_pos h]
      refine ⟨?_, by intro h'; cases h'⟩
      intro j u hj
      injection hj with hj
      injection hj with hj hu
      subst hj
      exact ⟨Nat.le_refl _, by simp [h], by simp⟩
    · rw [if_neg h, if_neg h]
      refine ⟨?_, ?_⟩
      · intro j u hj
        obtain ⟨h1, h2, h3⟩ := (ih (i + 1)).1 j u hj
        refine ⟨by omega, ?_⟩
        have e : j - i = (j - (i + 1)) + 1 := by omega
        rw [e]
        refine ⟨by simpa using h2, ?_⟩
        rw [h3]
        simp [List.modify]
      · intro hn
        rw [(ih (i + 1)).2 hn]
        rfl
theorem findNow_I (q : IntKind) (n : Int) : ∀ (L : List MapEntry) (es : List (Int × Value)) (i : Nat), L.map (fun e => (e.key, e.val)) = es.map (fun p => (Value.int .i64 p.1, p.2)) →
    Instr.findNow (.int q) (.int .i64 n) L i = some (ixI es n i)
  | [], es, i, h => by
    cases es with
    | nil => rfl
    | cons p r => simp at h
  | e :: L, es, i, h => by
    cases es with
    | nil => simp at h
    | cons p r =>
      simp only [List.map_cons, List.cons.injEq, Prod.mk.injEq] at h
      obtain ⟨⟨hk, hv⟩, hr⟩ := h
      simp only [Instr.findNow, Instr.sameNow, hk, if_true, ixI]
      by_cases hn : n = p.1
      · simp [hn, hv]
      · have : (n == p.1) = false := by simpa using hn
        simp only [this]
        rw [if_neg hn]
        exact findNow_I q n L r (i + 1) hr

section
variable {P : Program} {w : World} {b : Nat} {es : List (Int × Value)} {t k e : TypeId} {q : IntKind} {z : Value}
theorem run_checkI1 (hk : P.underlying k = some (.int q)) (em : Bool) (n : Int) (m : Nat) : (Instr.checkKey em (m + 1) k (.int .i64 n)).run P w = .ok () w := by
  simp [Instr.checkKey, run_underlying hk]
theorem run_checkI (hk : P.underlying k = some (.int q)) (em : Bool) (n : Int) : (Instr.checkKey em 10000 k (.int .i64 n)).run P w = .ok () w := run_checkI1 hk em n 9999
theorem run_lookup_I (ht : P.underlying t = some (.map k e)) (hk : P.underlying k = some (.int q)) (hz : (zeroValue e).run P w = .ok z w) (h : MapI w b es) (n : Int) (ok : Bool) :
    (Instr.lookup t (.map (some b)) (.int .i64 n) ok).run P w = .ok (if ok then .tuple #[(getI es n).getD z, .bool (getI es n).isSome] else (getI es n).getD z) w := by
  obtain ⟨ents, clk, hh, he⟩ := h
  have hf := findNow_I q n ents.toList es 0 he
  have hg := ixI_get es n 0
  cases hx : ixI es n 0 with
  | none =>
    rw [hx] at hf hg
    simp at hg
    cases ok <;> simp [Instr.lookup, run_underlying ht, MapKept.run_getObj_map hh, run_checkI hk, MapKept.run_findKey hk hf, hz, Result.andThen, ← hg]
  | some ju =>
    obtain ⟨j, u⟩ := ju
    rw [hx] at hf hg
    simp at hg
    cases ok <;> simp [Instr.lookup, run_underlying ht, MapKept.run_getObj_map hh, run_checkI hk, MapKept.run_findKey hk hf, Result.andThen, ← hg]
theorem only_setObj (w : World) (b : Nat) (o : Obj) : Only w { w with heap := w.heap.setIfInBounds b o } b :=
  ⟨rfl, rfl, rfl, by simp, fun k hk => by simp [Ne.symm hk]⟩
theorem run_update_I (ht : P.underlying t = some (.map k e)) (hk : P.underlying k = some (.int q)) (h : MapI w b es) (n : Int) (v : Value) :
    ∃ w', (Instr.mapUpdate t (.map (some b)) (.int .i64 n) v).run P w = .ok () w' ∧ MapI w' b (putI es n v) ∧ Only w w' b := by
  obtain ⟨ents, clk, hh, he⟩ := h
  have hlt := lt_of_heap hh
  have hf := findNow_I q n ents.toList es 0 he
  cases hx : ixI es n 0 with
  | none =>
    have hp := (ixI_put es n v 0).2 hx
    rw [hx] at hf
    refine ⟨_, by simp [Instr.mapUpdate, run_underlying ht, MapKept.run_getObj_map hh, run_checkI hk, MapKept.run_findKey hk hf, MapKept.run_setObj_map _ hh, Result.andThen]; rfl, ⟨_, _, by simp [hlt]; exact ⟨rfl, rfl⟩, ?_⟩, only_setObj w b _⟩
    rw [hp]
    simp [he]
  | some ju =>
    obtain ⟨j, u⟩ := ju
    obtain ⟨_, hkey, hp⟩ := (ixI_put es n v 0).1 j u hx
    rw [hx] at hf
    simp only [Nat.sub_zero] at hkey hp
    have hold : (ents[j]?).map (·.key) = some (.int .i64 n) := by
      have : ents.toList[j]?.map (fun e => (e.key, e.val)) = (es[j]?).map fun p => (Value.int .i64 p.1, p.2) := by rw [← List.getElem?_map, he, List.getElem?_map]
      cases h1 : es[j]? with
      | none => rw [h1] at hkey; cases hkey
      | some p =>
        rw [h1] at this hkey
        simp at hkey
        cases h2 : ents[j]? with
        | none => simp [h2] at this
        | some x => simp [h2] at this; simp [this.1, hkey]
    refine ⟨_, by simp [Instr.mapUpdate, run_underlying ht, MapKept.run_getObj_map hh, run_checkI hk, MapKept.run_findKey hk hf, hold, Instr.keyThatStays, Instr.sameBits, MapKept.run_setObj_map _ hh, Result.andThen]; rfl, ⟨_, _, by simp [hlt]; exact ⟨rfl, rfl⟩, ?_⟩, only_setObj w b _⟩
    rw [hp]
    apply List.ext_getElem?
    intro i
    have hi : ents.toList[i]?.map (fun e => (e.key, e.val)) = (es[i]?).map fun p => (Value.int .i64 p.1, p.2) := by rw [← List.getElem?_map, he, List.getElem?_map]
    simp only [List.getElem?_map, Array.getElem?_toList, Array.getElem?_modify, List.getElem?_modify]
    by_cases hij : j = i
    · subst hij
      cases h2 : ents[j]? with
      | none => simp [h2] at hold
      | some x =>
        cases h1 : es[j]? with
        | none => simp [h1] at hkey
        | some p => simp [h2] at hold; simp [h1] at hkey; simp [hkey]
    · simp only [hij, if_false]
      simpa using hi
theorem run_clear_I (ht : P.underlying t = some (.map k e)) (ty : TypeId) (h : MapI w b es) :
    ∃ w', (Builtin.clear_ #[t] ty #[.map (some b)]).run P w = .ok (.tuple #[]) w' ∧ MapI w' b [] ∧ Only w w' b := by
  obtain ⟨ents, clk, hh, _⟩ := h
  have hlt := lt_of_heap hh
  exact ⟨_, by simp [Builtin.clear_, run_underlying ht, MapKept.run_getObj_map hh, MapKept.run_setObj_map _ hh, Result.andThen]; rfl, ⟨#[], clk, by simp [hlt], rfl⟩, only_setObj w b _⟩
end

section
variable {P : Program} {ops : Array Oper} {rest : List Oper} {o : Oper} {a : Act} {w : World} {Q : Exit → Act → World → Prop}
theorem wpList_update_I (hgd : o.guard = none) (m x y : Operand) (t : TypeId) (ho : o.op = .mapUpdate t m x y) (k e : TypeId) (q : IntKind) (ht : P.underlying t = some (.map k e)) (hk : P.underlying k = some (.int q))
    (b : Nat) (es : List (Int × Value)) (n : Int) (v : Value) (hm : a.eval m = .map (some b)) (hx : a.eval x = .int .i64 n) (hy : a.eval y = v) (h : MapI w b es)
    (hK : ∀ w', MapI w' b (putI es n v) → Only w w' b → wpList P ops Q rest (a.put o.dst undef) w') : wpList P ops Q (o :: rest) a w := by
  refine wpList_plain hgd fun K hk' => ?_
  obtain ⟨w', hr, h1, h2⟩ := run_update_I ht hk h n v
  unfold Oper.wp
  simp [execOp, ho, hm, hx, hy, hr, Result.andThen]
  exact hk' _ _ (hK w' h1 h2)
theorem wpList_lookup_I (hgd : o.guard = none) (m x : Operand) (t : TypeId) (ok : Bool) (ho : o.op = .lookup t m x ok) (k e : TypeId) (q : IntKind) (z : Value) (ht : P.underlying t = some (.map k e)) (hk : P.underlying k = some (.int q))
    (hz : (zeroValue e).run P w = .ok z w) (b : Nat) (es : List (Int × Value)) (n : Int) (hm : a.eval m = .map (some b)) (hx : a.eval x = .int .i64 n) (h : MapI w b es)
    (hK : wpList P ops Q rest (a.put o.dst (if ok then .tuple #[(getI es n).getD z, .bool (getI es n).isSome] else (getI es n).getD z)) w) : wpList P ops Q (o :: rest) a w := by
  refine wpList_plain hgd fun K hk' => ?_
  have hr := run_lookup_I ht hk hz h n ok
  unfold Oper.wp
  simp [execOp, ho, hm, hx, hr, Result.andThen]
  exact hk' _ _ hK
theorem wpList_clear_I (hgd : o.guard = none) (m : Operand) (t : TypeId) (ho : o.op = .call { callee := .builtin .clear, args := #[m], argTypes := #[t] }) (k e : TypeId) (ht : P.underlying t = some (.map k e))
    (b : Nat) (es : List (Int × Value)) (hm : a.eval m = .map (some b)) (h : MapI w b es)
    (hK : ∀ w', MapI w' b [] → Only w w' b → wpList P ops Q rest (a.put o.dst (.tuple #[])) w') : wpList P ops Q (o :: rest) a w := by
  refine wpList_plain hgd fun K hk' => ?_
  obtain ⟨w', hr, h1, h2⟩ := run_clear_I (P := P) ht o.type h
  unfold Oper.wp
  simp [execOp, ho, resolve, invoke, builtin, hm, hr, Result.andThen]
  exact hk' _ _ (hK w' h1 h2)
end

/-! ### Arrays held against one another -/
theorem run_part_int {P : Program} {w : World} {e : TypeId} {q k : IntKind} (he : P.underlying e = some (.int q)) {xs : Array Value} {i : Nat} {x : Int} (h : xs[i]? = some (.int k x)) : (part e xs i).run P w = .ok (.int k x) w := by
  unfold part isAgg
  simp [run_underlying he, h]
theorem run_eqItems_int {P : Program} (w : World) (e : TypeId) (d : Nat) (q k : IntKind) (he : P.underlying e = some (.int q)) (xs ys : Array Value) (f g : Nat → Int) :
    ∀ (is : List Nat), (∀ i ∈ is, xs[i]? = some (.int k (f i)) ∧ ys[i]? = some (.int k (g i))) → (Op.eqItems (d + 1) e 1 xs ys is).run P w = .ok (decide (∀ i ∈ is, f i = g i)) w
  | [], _ => by simp [Op.eqItems]
  | i :: is, h => by
    obtain ⟨hx, hy⟩ := h i (by simp)
    have ih := run_eqItems_int w e d q k he xs ys f g is fun j hj => h j (by simp [hj])
    have hx' : xs[i * 1]? = some (.int k (f i)) := by simpa using hx
    have hy' : ys[i * 1]? = some (.int k (g i)) := by simpa using hy
    simp only [Op.eqItems, Sem.run_bind, run_part_int he hx', run_part_int he hy', Result.andThen_ok, run_equalIn_int w d e k q _ _ he]
    by_cases hfg : f i = g i
    · simp [hfg, ih]
    · have : (f i == g i) = false := by simpa using hfg
      simp [this, hfg]
theorem run_equalIn_intArray {P : Program} (w : World) (t e : TypeId) (i : TypeInfo) (n d : Nat) (q k : IntKind) (hu : P.underlying t = some (.array n e)) (he : P.underlying e = some (.int q)) (hi : P.info? e = some i) (hc : P.cellsOf e = 1) (a b : List Int) (ha : a.length = n) (hb : b.length = n) :
    (Op.equalIn (d + 2) t (.agg (a.map (Value.int k)).toArray) (.agg (b.map (Value.int k)).toArray)).run P w = .ok (decide (a = b)) w := by
  rw [run_equalIn_array w (d + 1) _ _ hu hi, hc, run_eqItems_int w e d q k he _ _ (fun j => a[j]?.getD 0) (fun j => b[j]?.getD 0) (List.range n) (fun j hj => by
    have hj' : j < n := by simpa using hj
    simp [ha, hb, hj'])]
  congr 1
  rw [decide_eq_decide]
  constructor
  · intro h
    apply List.ext_getElem (by omega)
    intro j h1 h2
    have := h j (by simp; omega)
    simpa [h1, h2] using this
  · rintro rfl j _
    rfl
section
variable {P : Program} {w : World} {t e : TypeId} {i : TypeInfo} {n : Nat} {q k : IntKind}
theorem run_eql_ints (hu : P.underlying t = some (.array n e)) (he : P.underlying e = some (.int q)) (hi : P.info? e = some i) (hc : P.cellsOf e = 1) (a b : List Int) (ha : a.length = n) (hb : b.length = n) :
    (binOp .eql t (.agg (a.map (Value.int k)).toArray) (.agg (b.map (Value.int k)).toArray)).run P w = .ok (.bool (decide (a = b))) w := by
  rw [run_eql_struct]
  show ((Op.equalIn (9998 + 2) t _ _).run P w).andThen _ = _
  rw [run_equalIn_intArray w t e i n 9998 q k hu he hi hc a b ha hb]
  rfl
theorem run_neq_ints (hu : P.underlying t = some (.array n e)) (he : P.underlying e = some (.int q)) (hi : P.info? e = some i) (hc : P.cellsOf e = 1) (a b : List Int) (ha : a.length = n) (hb : b.length = n) :
    (binOp .neq t (.agg (a.map (Value.int k)).toArray) (.agg (b.map (Value.int k)).toArray)).run P w = .ok (.bool (!decide (a = b))) w := by
  rw [run_neq_struct]
  show ((Op.equalIn (9998 + 2) t _ _).run P w).andThen _ = _
  rw [run_equalIn_intArray w t e i n 9998 q k hu he hi hc a b ha hb]
  rfl
end

/-! ### Many cells at once -/
section
variable {P : Program} {ops : Array Oper} {rest : List Oper} {o : Oper} {a : Act} {w : World} {Q : Exit → Act → World → Prop}
theorem run_storeVar_blk (w : World) (g : Nat) (t ty : TypeId) (cur cs : Array Value) (hg : Blk w g t cur) (hsz : cs.size = cur.size) (hi : (P.info? ty).map (·.size) = some cs.size) (h1 : ∀ v ∈ cs.toList, v.oneCell' = true) :
    (storeVar ty ⟨g, 0, none⟩ (.agg cs)).run P w = .ok () (w.setRow g cs) := by
  have h := run_storeCells_from (P := P) g t cs.toList 0 cur w hg (by simp [hsz]) h1
  simp only [List.take_zero, List.nil_append, Array.toArray_toList] at h
  cases hq : P.info? ty with
  | none => simp [hq] at hi
  | some i =>
    have hs : cs.size = i.size := by simp [hq] at hi; omega
    simp [storeVar, sizeOf, typeInfo, hq, Value.cells, hs, h]
theorem wp_store_blk {K : Act → World → Prop} (ty : TypeId) (x y : Operand) (ho : o.op = .store ty x y) (g : Nat) (t : TypeId) (cur cs : Array Value) (hx : a.eval x = .pointer (some ⟨g, 0, none⟩)) (hy : a.eval y = .agg cs)
    (hg : Blk w g t cur) (hsz : cs.size = cur.size) (hi : (P.info? ty).map (·.size) = some cs.size) (h1 : ∀ v ∈ cs.toList, v.oneCell' = true)
    (h : K (a.put o.dst undef) (w.setRow g cs)) : o.wp P a w K Q := by
  unfold Oper.wp execOp
  simp only [ho, hx, hy, Instr.storeAt, Instr.sureAddr, Sem.run_bind, Sem.run_pure, Result.andThen_ok, run_storeVar_blk w g t ty cur cs hg hsz hi h1]
  exact h
/-- a value of many cells goes into the whole of a block -/
theorem wpList_store_blk (hgd : o.guard = none) (ty : TypeId) (x y : Operand) (ho : o.op = .store ty x y) (g : Nat) (t : TypeId) (cur cs : Array Value) (hx : a.eval x = .pointer (some ⟨g, 0, none⟩)) (hy : a.eval y = .agg cs)
    (hg : Blk w g t cur) (hsz : cs.size = cur.size) (hi : (P.info? ty).map (·.size) = some cs.size) (h1 : ∀ v ∈ cs.toList, v.oneCell' = true)
    (h : ∀ w', Blk w' g t cs → Only w w' g → wpList P ops Q rest (a.put o.dst undef) w') : wpList P ops Q (o :: rest) a w := by
  refine wpList_plain hgd fun K hK => ?_
  unfold Oper.wp execOp
  simp only [ho, hx, hy, Instr.storeAt, Instr.sureAddr, Sem.run_bind, Sem.run_pure, Result.andThen_ok, run_storeVar_blk w g t ty cur cs hg hsz hi h1]
  exact hK _ _ (h _ (setRow_heap w g cur cs t (0, 0) hg) (Only.setRow w g cs))
/-- a whole variable is read, by an operation that is guarded and wanted -/
theorem wpList_load_row_w (hw : Region.wanted o (yielded ops a.tmps) = true) (ty : TypeId) (x : Operand) (ho : o.op = .load ty x)
    (g : Nat) (hx : a.eval x = .pointer (some ⟨g, 0, none⟩)) (t : TypeId) (cs : Array Value) (fr : Nat × Nat) (d : TypeDesc) (hg : w.heap[g]? = some (.cells cs t fr))
    (hu : P.underlying ty = some d) (hd : (match d with | .struct _ | .array _ _ => true | _ => false) = true) (hi : (P.info? ty).map (·.size) = some cs.size)
    (h : wpList P ops Q rest (a.put o.dst (.agg cs)) w) : wpList P ops Q (o :: rest) a w := by
  refine wpList_step fun K hK => ?_
  rw [if_pos hw]
  exact wp_load_row ty x ho g hx t cs fr d hg hu hd hi (hK _ _ h)
theorem results_cell_tmp {fn : Func} {p q : Tmp} {ty : TypeId} (h : fn.results = #[.cell p ty, .tmp q]) (tmps : Array Value) (w : World) (g : Nat) (t : TypeId) (cs : Array Value) (d : TypeDesc)
    (hp : tmps.getD p undef = .pointer (some ⟨g, 0, none⟩)) (hg : Blk w g t cs)
    (hu : P.underlying ty = some d) (hd : (match d with | .struct _ | .array _ _ => true | _ => false) = true) (hi : (P.info? ty).map (·.size) = some cs.size) :
    (results fn tmps).run P w = .ok (.tuple #[.agg cs, tmps.getD q undef]) w := by
  have hp' : tmps[p]?.getD undef = .pointer (some ⟨g, 0, none⟩) := by simpa using hp
  simp [results, h, hp', asAddr, run_loadVar_row w g t ty cs (0, 0) d hg hu hd hi]
/-- a value of one cell goes into a cell of a block that is known whole -/
theorem run_storeVar_cell (w : World) (g i : Nat) (t ty : TypeId) (cur : Array Value) (v : Value) (hg : Blk w g t cur) (hlt : i < cur.size) (hi : (P.info? ty).map (·.size) = some 1) (hc : v.cells = #[v]) (h1 : v.oneCell' = true) :
    (storeVar ty ⟨g, i, none⟩ v).run P w = .ok () (w.setCell ⟨g, i, none⟩ v) := by
  have hcell : w.cell? ⟨g, i, none⟩ = some cur[i] := by rw [hg.cell]; simp [hlt]
  have hst : (store ⟨g, i, none⟩ v).run P w = .ok () (w.setCell ⟨g, i, none⟩ v) := by
    rw [run_store P w _ v _ h1, hcell]
    simp [hg.frozen i]
  have ha : (⟨g, i, none⟩ : Addr).add 0 = ⟨g, i, none⟩ := by simp [Addr.add]
  cases hq : P.info? ty with
  | none => simp [hq] at hi
  | some x =>
    have hs : x.size = 1 := by simpa [hq] using hi
    simp [storeVar, sizeOf, typeInfo, hq, hs, hc, storeCells, ha, hst]
theorem wpList_store_cell (hgd : o.guard = none) (ty : TypeId) (x y : Operand) (ho : o.op = .store ty x y) (g i : Nat) (t : TypeId) (cur : Array Value) (v : Value) (hx : a.eval x = .pointer (some ⟨g, i, none⟩)) (hy : a.eval y = v)
    (hg : Blk w g t cur) (hlt : i < cur.size) (hi : (P.info? ty).map (·.size) = some 1) (hc : v.cells = #[v]) (h1 : v.oneCell' = true)
    (h : ∀ w', Blk w' g t (cur.setIfInBounds i v) → Only w w' g → wpList P ops Q rest (a.put o.dst undef) w') : wpList P ops Q (o :: rest) a w := by
  refine wpList_plain hgd fun K hK => ?_
  unfold Oper.wp execOp
  simp only [ho, hx, hy, Instr.storeAt, Instr.sureAddr, Sem.run_bind, Sem.run_pure, Result.andThen_ok, run_storeVar_cell w g i t ty cur v hg hlt hi hc h1]
  exact hK _ _ (h _ (hg.set_ i v) ⟨rfl, rfl, rfl, by simp, fun k hk => Below.heap_setCell w _ v k hk⟩)
/-- a new variable, its world under a name of its own -/
theorem wpList_new (hgd : o.guard = none) (e : TypeId) (ho : o.op = .alloc e) (z : Value) (hz : ∀ w, (zeroValue e).run P w = .ok z w) (H : Nat) (hH : w.heap.size = H)
    (h : ∀ w1, Blk w1 H e z.cells → w1.heap.size = H + 1 → Below H w w1 → wpList P ops Q rest (a.put o.dst (.pointer (some ⟨H, 0, none⟩))) w1) : wpList P ops Q (o :: rest) a w := by
  subst hH
  refine wpList_plain hgd fun K hK => ?_
  have hr : (Instr.alloc e true (.tuple #[])).run P w = .ok (.pointer (some ⟨w.heap.size, 0, none⟩)) (w.alloc (.cells z.cells e)) := by
    simp [Instr.alloc, hz, newVar, newRow]
  unfold Oper.wp
  simp [execOp, ho, hr, Result.andThen]
  exact hK _ _ (h _ (Blk.new w e z.cells) (by simp) ((Below.refl _ _).alloc (Nat.le_refl _) _))
theorem wp_new {K : Act → World → Prop} (e : TypeId) (ho : o.op = .alloc e) (z : Value) (hz : ∀ w, (zeroValue e).run P w = .ok z w) (H : Nat) (hH : w.heap.size = H)
    (h : K (a.put o.dst (.pointer (some ⟨H, 0, none⟩))) (w.alloc (.cells z.cells e))) : o.wp P a w K Q := by
  subst hH
  have hr : (Instr.alloc e true (.tuple #[])).run P w = .ok (.pointer (some ⟨w.heap.size, 0, none⟩)) (w.alloc (.cells z.cells e)) := by
    simp [Instr.alloc, hz, newVar, newRow]
  unfold Oper.wp
  simp [execOp, ho, hr, Result.andThen]
  exact h
/-- bytes go from one slice to another, which lies in a block of bytes that is known whole -/
theorem run_copy_U8 {w : World} (dT sT ty : TypeId) (elem : TypeId) (hu : P.underlying dT = some (.slice elem)) (hsz : (P.info? elem).map (·.size) = some 1)
    (g off dLen dCap : Nat) (ad : Addr) (sLen sCap : Nat) (t : TypeId) (L cs : List Int) (hg : Blk w g t (U8 L)) (hn : cs.length = Nat.min sLen dLen) (hsrc : ∀ j, (h : j < cs.length) → w.cell? (ad.add j) = some (.int .u8 cs[j])) (hfit : off + cs.length ≤ L.length) :
    ∃ w', (Builtin.copy_ #[dT, sT] ty #[.slice (some ⟨g, off, none⟩) dLen dCap, .slice (some ad) sLen sCap]).run P w = .ok (goInt cs.length) w' ∧ Blk w' g t (U8 (over L off cs)) ∧ Only w w' g := by
  have h := run_copy_row (P := P) w dT sT ty elem g off dLen dCap ad sLen sCap (U8 L) t (cs.map (Value.int .u8)) hu hsz hg (by simpa using hn) (by
    intro j v hv
    rw [List.getElem?_map] at hv
    cases hj : cs[j]? with
    | none => rw [hj] at hv; cases hv
    | some x =>
      rw [hj] at hv
      obtain ⟨hl, hx⟩ := List.getElem?_eq_some_iff.1 hj
      rw [hsrc j hl, hx]
      exact hv) (by simpa using hfit) (one_map cs)
  rw [List.append_assoc, ← U8_over] at h
  simp only [List.length_map] at h
  exact ⟨_, h, setRow_heap w g _ _ t (0, 0) hg, Only.setRow w g _⟩
theorem wpList_copy_U8 (hgd : o.guard = none) (d s : Operand) (dT sT : TypeId) (ho : o.op = .call { callee := .builtin .copy, args := #[d, s], argTypes := #[dT, sT] })
    (elem : TypeId) (hu : P.underlying dT = some (.slice elem)) (hsz : (P.info? elem).map (·.size) = some 1)
    (g off dLen dCap : Nat) (ad : Addr) (sLen sCap : Nat) (hd : a.eval d = .slice (some ⟨g, off, none⟩) dLen dCap) (hs : a.eval s = .slice (some ad) sLen sCap) (t : TypeId) (L cs : List Int) (hg : Blk w g t (U8 L))
    (hn : cs.length = Nat.min sLen dLen) (hsrc : ∀ j, (h : j < cs.length) → w.cell? (ad.add j) = some (.int .u8 cs[j])) (hfit : off + cs.length ≤ L.length)
    (h : ∀ w', Blk w' g t (U8 (over L off cs)) → Only w w' g → wpList P ops Q rest (a.put o.dst (goInt cs.length)) w') : wpList P ops Q (o :: rest) a w := by
  refine wpList_plain hgd fun K hK => ?_
  obtain ⟨w', hrun, h1, h2⟩ := run_copy_U8 (P := P) (w := w) dT sT o.type elem hu hsz g off dLen dCap ad sLen sCap t L cs hg hn hsrc hfit
  unfold Oper.wp
  simp [execOp, ho, resolve, invoke, builtin, hd, hs, hrun, Result.andThen]
  exact hK _ _ (h w' h1 h2)
end
theorem step_copy_U8 {P : Program} {ops : Array Oper} {o : Oper} {a : Act} {w : World} {K : Act → World → Prop} {Q : Exit → Act → World → Prop} {E : Prop} (hgd : o.guard = none) (d s : Operand) (dT sT : TypeId) (ho : o.op = .call { callee := .builtin .copy, args := #[d, s], argTypes := #[dT, sT] })
    (elem : TypeId) (hu : P.underlying dT = some (.slice elem)) (hsz : (P.info? elem).map (·.size) = some 1)
    (g off dLen dCap : Nat) (ad : Addr) (sLen sCap : Nat) (hd : a.eval d = .slice (some ⟨g, off, none⟩) dLen dCap) (hs : a.eval s = .slice (some ad) sLen sCap) (t : TypeId) (L cs : List Int) (hg : Blk w g t (U8 L))
    (hn : cs.length = Nat.min sLen dLen) (hsrc : ∀ j, (h : j < cs.length) → w.cell? (ad.add j) = some (.int .u8 cs[j])) (hfit : off + cs.length ≤ L.length)
    (h : ∀ w', Blk w' g t (U8 (over L off cs)) → Only w w' g → K (a.put o.dst (goInt cs.length)) w') : if Region.wanted o (yielded ops a.tmps) = true then Oper.wp P o a w K Q else E := by
  have hw : Region.wanted o (yielded ops a.tmps) = true := by simp [Region.wanted, hgd]
  rw [if_pos hw]
  obtain ⟨w', hrun, h1, h2⟩ := run_copy_U8 (P := P) (w := w) dT sT o.type elem hu hsz g off dLen dCap ad sLen sCap t L cs hg hn hsrc hfit
  unfold Oper.wp
  simp [execOp, ho, resolve, invoke, builtin, hd, hs, hrun, Result.andThen]
  exact h w' h1 h2
theorem over_all (l cs : List Int) (h : cs.length = l.length) : over l 0 cs = cs := by simp [over, h]
theorem add_at (b o j : Nat) : (⟨b, o, none⟩ : Addr).add j = ⟨b, o + j, none⟩ := by unfold Addr.add; split <;> simp_all
theorem Blk.src {w : World} {g : Nat} {t : TypeId} {L : List Int} (h : Blk w g t (U8 L)) (off n : Nat) (hn : off + n ≤ L.length) : ∀ j, (hj : j < ((L.drop off).take n).length) → w.cell? ((⟨g, off, none⟩ : Addr).add j) = some (.int .u8 ((L.drop off).take n)[j]) := by
  intro j hj
  have : off + j < L.length := by simp at hj; omega
  rw [add_at, h.cell, get_U8_lt _ _ this]
  simp
theorem Blk.rangeU8 {w : World} {g : Nat} {t : TypeId} {L : List Int} (h : Blk w g t (U8 L)) (off n : Nat) (hn : off + n ≤ L.length) : w.rangeAt g off (((L.drop off).take n).map (Value.int .u8)) := fun j v hj => by
  rw [List.getElem?_map] at hj
  cases h1 : ((L.drop off).take n)[j]? with
  | none => rw [h1] at hj; cases hj
  | some a =>
    rw [h1] at hj
    injection hj with hj
    subst hj
    obtain ⟨hl, ha⟩ := List.getElem?_eq_some_iff.1 h1
    have := h.src off n hn j hl
    rw [add_at] at this
    rw [this, ha]
end Go.Proofs.Ytfodboooopkheaa
