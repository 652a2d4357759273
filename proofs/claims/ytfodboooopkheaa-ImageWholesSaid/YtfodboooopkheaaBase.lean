/- Words for memory, and laws at operations, that the walks of this seat use: a block that is known whole, bytes as a list, a map from whole numbers, arrays held against one another, and what a call leaves as it was. Nothing here speaks of one statement. -/
import Derived.Test.YtfodboooopkheaaRows
import Derived.WalkKit
import Derived.WalkSpells
import Derived.WalkLawsBesides
import Derived.Deep.MidRow
import Derived.Deep.QuietTactic
import Derived.BigQuiet
import Derived.Deep.RegionHeld3
import Derived.StillTailTactics
import Derived.Deep.AppendLies
import Derived.Maps.AppendAt
import Derived.Lib.Hide
import Derived.Deep.RegionLaw
namespace Go.Proofs.Ytfodboooopkheaa
open Go.RowKit

/-! ### A block that is known whole -/
def Blk (w : World) (g : Nat) (t : TypeId) (cs : Array Value) : Prop := w.heap[g]? = some (.cells cs t (0, 0))

section
variable {w w' : World} {g : Nat} {t : TypeId} {cs : Array Value}
theorem lt_of_heap {o : Obj} (h : w.heap[g]? = some o) : g < w.heap.size := by
  rcases Nat.lt_or_ge g w.heap.size with hlt | hge
  · exact hlt
  · rw [Array.getElem?_eq_none hge] at h; cases h
theorem Blk.lt (h : Blk w g t cs) : g < w.heap.size := lt_of_heap h
theorem Blk.cell (h : Blk w g t cs) (i : Nat) : w.cell? ⟨g, i, none⟩ = cs[i]? := cell_of_row w g i cs t (0, 0) h
theorem Blk.frozen (h : Blk w g t cs) (i : Nat) : w.frozen? ⟨g, i, none⟩ = false := by
  unfold Blk at h
  simp [World.frozen?, h]
theorem Blk.new (w : World) (t : TypeId) (cs : Array Value) : Blk (w.alloc (.cells cs t)) w.heap.size t cs := heap_alloc_new w _
theorem Blk.drew (h : Blk w g t cs) : Blk w.drew g t cs := h
theorem Blk.drewN (h : Blk w g t cs) (n : Nat) : Blk (w.drewN n) g t cs := h
theorem Blk.alloc (h : Blk w g t cs) (o : Obj) : Blk (w.alloc o) g t cs := (Below.heap_alloc w o g h.lt).trans h
theorem Blk.set_ (h : Blk w g t cs) (i : Nat) (u : Value) : Blk (w.setCell ⟨g, i, none⟩ u) g t (cs.setIfInBounds i u) := by
  unfold Blk at h ⊢
  simp [World.setCell, Array.getElem?_modify, h]
theorem Blk.far (h : Blk w g t cs) {p : Addr} (hp : g ≠ p.block) (u : Value) : Blk (w.setCell p u) g t cs := (Below.heap_setCell w p u g hp).trans h
theorem Blk.ne_ {g' : Nat} {t' : TypeId} {cs' : Array Value} (h : Blk w g t cs) (h' : Blk w g' t' cs') (hne : t ≠ t') : g ≠ g' := by
  rintro rfl
  unfold Blk at h h'
  rw [h] at h'
  injection h' with h'
  injection h' with _ ht
  exact hne ht
theorem Blk.same {t' : TypeId} {cs' : Array Value} (h : Blk w g t cs) (h' : Blk w g t' cs') : cs = cs' := by
  unfold Blk at h h'
  rw [h] at h'
  injection h' with h'
  injection h' with h'
theorem own_blk_ne {base : Nat} {e : TypeId} {size n : Nat} {v : Value} {xs : List Value} (h : w.ownsRow base e size v n xs) (hg : Blk w g t cs) (hne : e ≠ t) : v.ownBlock ≠ some g := by
  rcases h.2 with ⟨rfl, _⟩ | ⟨g', cap, cur, rfl, _, hh, _⟩
  · simp [Value.ownBlock]
  · intro he
    have : g' = g := by simpa [Value.ownBlock] using he
    subst this
    exact Blk.ne_ (t := e) hh hg hne rfl
theorem own_heap_ne {base : Nat} {e : TypeId} {size n : Nat} {v : Value} {xs : List Value} {o : Obj} (h : w.ownsRow base e size v n xs) (hg : w.heap[g]? = some o) (hne : ∀ c t f, o ≠ .cells c t f) : v.ownBlock ≠ some g := by
  rcases h.2 with ⟨rfl, _⟩ | ⟨g', cap, cur, rfl, _, hh, _⟩
  · simp [Value.ownBlock]
  · intro he
    have : g' = g := by simpa [Value.ownBlock] using he
    subst this
    rw [hh] at hg
    injection hg with hg
    exact hne _ _ _ hg.symm
end

theorem own_slice {w : World} {base : Nat} {e : TypeId} {size n : Nat} {v : Value} {xs : List Value} (h : w.ownsRow base e size v n xs) : ∃ a m c, v = .slice a m c := by
  rcases h.2 with ⟨rfl, _⟩ | ⟨g', cap, cur, rfl, _⟩
  · exact ⟨_, _, _, rfl⟩
  · exact ⟨_, _, _, rfl⟩

/-! ### What a call leaves as it was: all blocks that lay there, but for those of which F holds -/
structure Kept (w w' : World) (F : Nat → Prop) : Prop where
  os : w'.os = w.os
  tape : w'.tape = w.tape
  output : w'.output = w.output
  size : w.heap.size ≤ w'.heap.size
  block : ∀ k, k < w.heap.size → ¬ F k → w'.heap[k]? = w.heap[k]?

section
variable {w w' w'' : World} {F G : Nat → Prop}
theorem Kept.refl (w : World) (F : Nat → Prop) : Kept w w F := ⟨rfl, rfl, rfl, Nat.le_refl _, fun _ _ _ => rfl⟩
theorem Kept.trans (h : Kept w w' F) (h' : Kept w' w'' G) (hG : ∀ k, k < w.heap.size → G k → F k) : Kept w w'' F :=
  ⟨h'.os.trans h.os, h'.tape.trans h.tape, h'.output.trans h.output, Nat.le_trans h.size h'.size,
    fun k hk hF => (h'.block k (Nat.lt_of_lt_of_le hk h.size) (fun g => hF (hG k hk g))).trans (h.block k hk hF)⟩
theorem Kept.mono (h : Kept w w' F) (hG : ∀ k, k < w.heap.size → F k → G k) : Kept w w' G :=
  ⟨h.os, h.tape, h.output, h.size, fun k hk hn => h.block k hk fun hf => hn (hG k hk hf)⟩
theorem Kept.blk (h : Kept w w' F) {g : Nat} {t : TypeId} {cs : Array Value} (hg : Blk w g t cs) (hF : ¬ F g) : Blk w' g t cs := (h.block g hg.lt hF).trans hg
theorem Kept.heap (h : Kept w w' F) {g : Nat} {o : Obj} (hg : w.heap[g]? = some o) (hF : ¬ F g) : w'.heap[g]? = some o := (h.block g (lt_of_heap hg) hF).trans hg
theorem Kept.cell (h : Kept w w' F) {p : Addr} (hp : p.block < w.heap.size) (hF : ¬ F p.block) : w'.cell? p = w.cell? p := World.cell?_of_block (w := w) (h.block p.block hp hF)
theorem Kept.frozen (h : Kept w w' F) {p : Addr} (hp : p.block < w.heap.size) (hF : ¬ F p.block) : w'.frozen? p = w.frozen? p := World.frozen?_of_block (w := w) (h.block p.block hp hF)
theorem Kept.below (h : Below w.heap.size w w') : Kept w w' F := ⟨h.os, h.tape, h.output, h.size, fun k hk _ => h.block k hk⟩
theorem Kept.toBelow (h : Kept w w' fun _ => False) : Below w.heap.size w w' := ⟨h.os, h.tape, h.output, h.size, fun k hk => h.block k hk (fun x => x)⟩
theorem Kept.drew (h : Kept w w' F) : Kept w w'.drew F := ⟨h.os, h.tape, h.output, h.size, h.block⟩
theorem Kept.drewN (h : Kept w w' F) (n : Nat) : Kept w (w'.drewN n) F := ⟨h.os, h.tape, h.output, h.size, h.block⟩
theorem Kept.alloc (h : Kept w w' F) (o : Obj) : Kept w (w'.alloc o) F :=
  ⟨h.os, h.tape, h.output, by simp; have := h.size; omega, fun k hk hn => (Below.heap_alloc w' o k (Nat.lt_of_lt_of_le hk h.size)).trans (h.block k hk hn)⟩
theorem Kept.setCell (h : Kept w w' F) {p : Addr} (hp : F p.block ∨ w.heap.size ≤ p.block) (u : Value) : Kept w (w'.setCell p u) F :=
  ⟨h.os, h.tape, h.output, by simpa using h.size, fun k hk hn => (Below.heap_setCell w' p u k (by rintro rfl; rcases hp with hp | hp; exact hn hp; omega)).trans (h.block k hk hn)⟩
theorem Kept.grown {row : Option Nat} (h : Kept w w' F) (hg : w'.grownBy w'' row) (hr : ∀ k, row = some k → F k ∨ w.heap.size ≤ k) : Kept w w'' F :=
  ⟨hg.os.trans h.os, hg.tape.trans h.tape, hg.output.trans h.output, Nat.le_trans h.size hg.size, fun k hk hn =>
    (hg.block k (Nat.lt_of_lt_of_le hk h.size) (fun e => by rcases hr k e.symm with h1 | h1; exact hn h1; omega)).trans (h.block k hk hn)⟩
end

/-- Nothing but block g has turned, and none is new. -/
structure Only (w w' : World) (g : Nat) : Prop where
  os : w'.os = w.os
  tape : w'.tape = w.tape
  output : w'.output = w.output
  size : w'.heap.size = w.heap.size
  block : ∀ k, k ≠ g → w'.heap[k]? = w.heap[k]?
theorem Only.kept {w w' w'' : World} {g : Nat} {F : Nat → Prop} (h : Kept w w' F) (ho : Only w' w'' g) (hg : F g ∨ w.heap.size ≤ g) : Kept w w'' F :=
  ⟨ho.os.trans h.os, ho.tape.trans h.tape, ho.output.trans h.output, by rw [ho.size]; exact h.size, fun k hk hn =>
    (ho.block k (by rintro rfl; rcases hg with hg | hg; exact hn hg; omega)).trans (h.block k hk hn)⟩
theorem Only.blk {w w' : World} {g k : Nat} {t : TypeId} {cs : Array Value} (h : Only w w' g) (hk : Blk w k t cs) (hne : k ≠ g) : Blk w' k t cs := (h.block k hne).trans hk
theorem Only.cell {w w' : World} {g : Nat} {p : Addr} (h : Only w w' g) (hp : p.block ≠ g) : w'.cell? p = w.cell? p := World.cell?_of_block (w := w) (h.block p.block hp)
theorem Only.setRow (w : World) (g : Nat) (cs : Array Value) : Only w (w.setRow g cs) g := ⟨rfl, rfl, rfl, by simp, fun k hk => setRow_other w g k cs hk⟩

theorem own_kept {w w' : World} {F : Nat → Prop} {base : Nat} {e : TypeId} {size n : Nat} {v : Value} {xs : List Value} (h : w.ownsRow base e size v n xs) (hk : Kept w w' F) (hF : ∀ k, v.ownBlock = some k → ¬ F k) :
    w'.ownsRow base e size v n xs := by
  refine ⟨h.1, ?_⟩
  rcases h.2 with h2 | ⟨g, cap, cur, rfl, hb, hh, rest⟩
  · exact .inl h2
  · exact .inr ⟨g, cap, cur, rfl, hb, hk.heap hh (hF g rfl), rest⟩

/-! ### Bytes -/
def U8 (l : List Int) : Array Value := (l.map (Value.int .u8)).toArray
def Byt (l : List Int) : Prop := ∀ x ∈ l, 0 ≤ x ∧ x ≤ 255
@[simp] theorem size_U8 (l : List Int) : (U8 l).size = l.length := by simp [U8]
theorem get_U8 (l : List Int) (i : Nat) : (U8 l)[i]? = (l[i]?).map (Value.int .u8) := by simp [U8]
theorem get_U8_lt (l : List Int) (i : Nat) (h : i < l.length) : (U8 l)[i]? = some (.int .u8 l[i]) := by simp [U8, h]
theorem toList_U8 (l : List Int) : (U8 l).toList = l.map (Value.int .u8) := by simp [U8]
theorem one_U8 (l : List Int) : ∀ v ∈ (U8 l).toList, v.oneCell' = true := by
  intro v hv
  rw [toList_U8] at hv
  obtain ⟨x, _, rfl⟩ := List.mem_map.1 hv
  rfl
theorem one_map (l : List Int) : ∀ v ∈ l.map (Value.int .u8), v.oneCell' = true := by
  intro v hv
  obtain ⟨x, _, rfl⟩ := List.mem_map.1 hv
  rfl
theorem U8_inj {a b : List Int} (h : U8 a = U8 b) : a = b := by
  have h1 : a.map (Value.int .u8) = b.map (Value.int .u8) := by rw [← toList_U8, ← toList_U8, h]
  exact (List.map_inj_right (fun x y h => by injection h)).1 h1
theorem Byt.get {l : List Int} (h : Byt l) {i : Nat} (hi : i < l.length) : 0 ≤ l[i] ∧ l[i] ≤ 255 := h _ (List.getElem_mem hi)
theorem Byt.take {l : List Int} (h : Byt l) (n : Nat) : Byt (l.take n) := fun x hx => h x (List.mem_of_mem_take hx)
theorem Byt.drop {l : List Int} (h : Byt l) (n : Nat) : Byt (l.drop n) := fun x hx => h x (List.mem_of_mem_drop hx)
theorem Byt.append {l m : List Int} (h : Byt l) (k : Byt m) : Byt (l ++ m) := fun x hx => (List.mem_append.1 hx).elim (h x) (k x)
theorem Byt.replicate (n : Nat) : Byt (List.replicate n 0) := fun x hx => by rw [List.eq_of_mem_replicate hx]; omega

/-- 'cs' laid over 'l' from place k on -/
def over (l : List Int) (k : Nat) (cs : List Int) : List Int := l.take k ++ (cs ++ l.drop (k + cs.length))
theorem length_over (l : List Int) (k : Nat) (cs : List Int) (h : k + cs.length ≤ l.length) : (over l k cs).length = l.length := by simp [over]; omega
theorem Byt.over {l cs : List Int} (h : Byt l) (hc : Byt cs) (k : Nat) : Byt (over l k cs) := (h.take k).append (hc.append (h.drop _))
theorem over_nil (l : List Int) (k : Nat) : over l k [] = l := by simp [Ytfodboooopkheaa.over]
theorem U8_over (l : List Int) (k : Nat) (cs : List Int) : U8 (over l k cs) = ((U8 l).toList.take k ++ (cs.map (Value.int .u8) ++ (U8 l).toList.drop (k + (cs.map (Value.int .u8)).length))).toArray := by
  simp [over, U8]

end Go.Proofs.Ytfodboooopkheaa
