/- shipwrightlaw08.awake: calls whose answers the document fixes. -/
import Derived.Test.YtfodboooopkheaaAt
import Derived.Lib.SlBytesConst
namespace Go.Proofs.Ytfodboooopkheaa
open Go.RowKit

def ABC : List Int := [97, 98, 99]
def bootA : BT := ⟨1, 0, 3, shaF ABC⟩
theorem len_shaF (l : List Int) : (shaF l).length = 32 := len_digest _
theorem byt_shaF (l : List Int) : Byt (shaF l) := byt_digest _
theorem byt_ABC : Byt ABC := by intro x hx; simp [ABC] at hx; omega
theorem bootA_wf : bootA.wf := ⟨by decide, by decide, by decide, by decide, by decide, by decide, len_shaF _, byt_shaF _⟩
theorem bootA_may : bootA.may := ⟨.inr rfl, by decide, by decide, by decide, by decide⟩
theorem cells_ABC {W : World} {g : Nat} (h : W.heap[g]? = some (.cells #[.int .u8 97, .int .u8 98, .int .u8 99] 5 (3, 4))) : ∀ j u, (ABC.map (Value.int .u8))[j]? = some u → W.cell? ((⟨g, 0, none⟩ : Addr).add j) = some u := by
  intro j u hj
  rw [add_at, Nat.zero_add, cell_of_row W g j _ 5 (3, 4) h]
  rw [← hj, List.getElem?_map]
  exact get_U8 ABC j
theorem sum_abc (V : World) : Calls Try.prog 10 #[.slice (some ⟨V.heap.size + 1, 0, none⟩) 1 1] ((V.alloc (.cells #[.int .u8 97, .int .u8 98, .int .u8 99] 5 (3, 4))).alloc (.cells #[.slice (some ⟨V.heap.size, 0, none⟩) 3 3] 22)) fun e w' => e = .returned (.agg (U8 (shaF ABC))) ∧ Below V.heap.size V w' := by
  have hb : Below V.heap.size V ((V.alloc (.cells #[.int .u8 97, .int .u8 98, .int .u8 99] 5 (3, 4))).alloc (.cells #[.slice (some ⟨V.heap.size, 0, none⟩) 3 3] 22)) := ((Below.refl _ _).alloc (Nat.le_refl _) _).alloc (by simp) _
  have hh : ((V.alloc (.cells #[.int .u8 97, .int .u8 98, .int .u8 99] 5 (3, 4))).alloc (.cells #[.slice (some ⟨V.heap.size, 0, none⟩) 3 3] 22)).heap[V.heap.size]? = some (.cells #[.int .u8 97, .int .u8 98, .int .u8 99] 5 (3, 4)) := by
    have h1 := heap_alloc_new V (.cells #[.int .u8 97, .int .u8 98, .int .u8 99] 5 (3, 4))
    exact (Below.heap_alloc _ _ _ (lt_of_heap h1)).trans h1
  have hn : Blk ((V.alloc (.cells #[.int .u8 97, .int .u8 98, .int .u8 99] 5 (3, 4))).alloc (.cells #[.slice (some ⟨V.heap.size, 0, none⟩) 3 3] 22)) (V.heap.size + 1) 22 #[.slice (some ⟨V.heap.size, 0, none⟩) 3 3] := by
    have := Blk.new (V.alloc (.cells #[.int .u8 97, .int .u8 98, .int .u8 99] 5 (3, 4))) 22 #[.slice (some ⟨V.heap.size, 0, none⟩) 3 3]
    rwa [World.size_alloc] at this
  refine (sum_any (V.heap.size + 1) 1 22 _ ⟨V.heap.size, 0, none⟩ 3 ABC _ hn rfl (by decide) byt_ABC (cells_ABC hh) (lt_of_heap hh)).mono ?_
  rintro e w' ⟨rfl, b⟩
  exact ⟨rfl, hb.trans (b.mono hb.size)⟩
theorem put_abc (b B : Nat) (s : DS) (V : World) (h : At V b B s) (hB : B ≤ V.heap.size) (hd : s.down = false) (h1 : 5 ≤ s.n) :
    Calls Try.prog 11 #[.pointer (some ⟨b, 0, none⟩), .int .i64 2, .int .i64 3, .int .i64 0, .slice (some ⟨V.heap.size, 0, none⟩) 3 3] (V.alloc (.cells #[.int .u8 97, .int .u8 98, .int .u8 99] 5 (3, 4))) fun e w' => e = .returned (.int .i64 0) ∧ ∃ s', At w' b B s' ∧ Laid s s' 128 ABC ∧ Turn B V w' := by
  have hb : Below V.heap.size V (V.alloc (.cells #[.int .u8 97, .int .u8 98, .int .u8 99] 5 (3, 4))) := (Below.refl _ _).alloc (Nat.le_refl _) _
  have hh := heap_alloc_new V (.cells #[.int .u8 97, .int .u8 98, .int .u8 99] 5 (3, 4))
  exact put_new b B s 2 3 0 3 ABC V _ V.heap.size h hB hb ⟨Nat.le_refl _, lt_of_heap hh⟩ hd (by decide) (by omega) (by decide) byt_ABC (fun j hj => cells_ABC hh j _ (by rw [List.getElem?_map, List.getElem?_eq_getElem hj]; rfl))
set_option maxRecDepth 100000 in
theorem abc_not_zeros : shaF [0, 0, 0] ≠ shaF ABC := by
  intro h
  have h2 : (shaF [0, 0, 0]).take 2 = (shaF ABC).take 2 := by rw [h]
  revert h2
  decide +kernel

def S1 : DS := ((newS 10).put 0 (encB bootA 1)).flushed
theorem S1_n : S1.n = 10 := rfl
theorem S1_down : S1.down = false := rfl
theorem best_S1 : bestN S1 0 2 = (bootA, 1) := by
  have h0 := best_new 10 0 (by omega) (by omega)
  have := best_put (newS 10) 0 0 (encB bootA 1) bootA rfl (len_encB _ _ (len_shaF _)) (List.length_replicate) (by omega) (by show (0 : Int) + 2 ≤ 10; omega) (.inl rfl) (by rw [h0]; exact Int.le_refl _)
    (by rw [h0]; exact readB_encB bootA 1 bootA_wf bootA_may (by omega) (by omega))
  rw [h0] at this
  exact this
theorem blk_S1 : S1.blk 5 = Z64 := by
  have := blk_over (newS 10) 0 5 (encB bootA 1) rfl (len_encB _ _ (len_shaF _)) (List.length_replicate) (by omega) (by show (0 : Int) < 10; omega) (by omega) (by show (5 : Int) < 10; omega)
  rw [if_neg (by omega), blk_new 10 5 (by omega) (by omega)] at this
  exact this
theorem from_ABC {s : DS} (h : Laid S1 s 128 ABC) : s.from_ 128 3 = ABC := by
  have e0 := h.look 128 (by rw [S1_n]; omega)
  have e1 := h.look 129 (by rw [S1_n]; omega)
  have e2 := h.look 130 (by rw [S1_n]; omega)
  show [s.look 128, s.look 129, s.look 130] = _
  rw [e0, e1, e2]
  rfl
theorem from_none {s : DS} (h : Laid S1 s 128 ABC) : s.from_ 320 3 = [0, 0, 0] := by
  have e : ∀ x, 320 ≤ x → x < 384 → s.look x = 0 := fun x h1 h2 => by
    rw [h.look x (by rw [S1_n]; omega), if_neg (by show ¬ (128 ≤ x ∧ x < 128 + 3); omega)]
    unfold DS.look
    rw [show x / 64 = 5 by omega]
    show (S1.blk 5).getD _ _ = 0
    rw [blk_S1]
    have : x % 64 < 64 := Nat.mod_lt _ (by omega)
    unfold Z64
    rw [List.getD_eq_getElem?_getD, List.getElem?_replicate, if_pos this]
    rfl
  show [s.look 320, s.look 321, s.look 322] = _
  rw [e 320 (by omega) (by omega), e 321 (by omega) (by omega), e 322 (by omega) (by omega)]
theorem whole_yes {s : DS} (h : Laid S1 s 128 ABC) : wholeE s 2 bootA 3 = 0 := by
  unfold wholeE
  rw [show 64 * 2 = 128 from rfl, from_ABC h]
  exact if_pos rfl
theorem whole_not {s : DS} (h : Laid S1 s 128 ABC) : wholeE s 5 bootA 3 = 80 := by
  unfold wholeE
  rw [show 64 * 5 = 320 from rfl, from_none h]
  exact if_neg abc_not_zeros
end Go.Proofs.Ytfodboooopkheaa
