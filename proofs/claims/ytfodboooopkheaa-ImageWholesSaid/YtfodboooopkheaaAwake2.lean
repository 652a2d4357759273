/- shipwrightlaw08.awake answers true, and leaves what lay there as it was. -/
import Derived.Test.YtfodboooopkheaaAwake
import Derived.Test.YtfodboooopkheaaEql
namespace Go.Proofs.Ytfodboooopkheaa
open Go.RowKit
theorem foldl_U8 (f : Array Value → Value × Nat → Array Value) (Z : Array Value) (l : List Int) : Array.foldl f Z ((U8 l).zipIdx 0) 0 l.length = List.foldl f Z (l.map (Value.int .u8)).zipIdx := by
  have e : l.length = ((U8 l).zipIdx 0).size := by simp
  rw [e, ← Array.foldl_toList, Array.toList_zipIdx, toList_U8]
theorem built_U8 (x m q : Int) (l : List Int) (hl : l.length = 32) :
    Array.foldl (fun (cs : Array Value) (x : Value × Nat) => cs.setIfInBounds (3 + x.snd) x.fst) #[Value.int IntKind.i64 x, Value.int IntKind.i64 m, Value.int IntKind.i64 q, Value.int IntKind.u8 0, Value.int IntKind.u8 0, Value.int IntKind.u8 0, Value.int IntKind.u8 0, Value.int IntKind.u8 0, Value.int IntKind.u8 0, Value.int IntKind.u8 0, Value.int IntKind.u8 0, Value.int IntKind.u8 0, Value.int IntKind.u8 0, Value.int IntKind.u8 0, Value.int IntKind.u8 0, Value.int IntKind.u8 0, Value.int IntKind.u8 0, Value.int IntKind.u8 0, Value.int IntKind.u8 0, Value.int IntKind.u8 0, Value.int IntKind.u8 0, Value.int IntKind.u8 0, Value.int IntKind.u8 0, Value.int IntKind.u8 0, Value.int IntKind.u8 0, Value.int IntKind.u8 0, Value.int IntKind.u8 0, Value.int IntKind.u8 0, Value.int IntKind.u8 0, Value.int IntKind.u8 0, Value.int IntKind.u8 0, Value.int IntKind.u8 0, Value.int IntKind.u8 0, Value.int IntKind.u8 0, Value.int IntKind.u8 0] ((U8 l).zipIdx 0) 0 l.length = BT.cells ⟨x, m, q, l⟩ := by
  rw [foldl_U8]
  exact built31 x m q (l.map (Value.int .u8)) l rfl hl
theorem string_abc (W : World) (g cap : Nat) (s : DS) (h : Laid S1 s 128 ABC) (hc : ∀ i, (hi : i < 3) → W.cell? ⟨g, i, none⟩ = some (.int .u8 (s.look (64 * 2 + i)))) :
    (convert 22 9 (.slice (some ⟨g, 0, none⟩) 3 cap)).run Try.prog W = .ok (.string ⟨#[97, 98, 99]⟩) W := by
  refine run_convert_bytes_back (P := Try.prog) W 22 9 5 ⟨g, 0, none⟩ cap [97, 98, 99] Try.underlying22 Try.underlying5 (by kernel_rfl) ?_
  intro j hj
  rw [add_at, Nat.zero_add, hc j hj, h.look _ (by rw [S1_n]; simp at hj; omega)]
  match j, hj with
  | 0, _ => rfl
  | 1, _ => rfl
  | 2, _ => rfl
theorem whole_abc (b B : Nat) (s : DS) (w : World) (h : At w b B s) (la : Laid S1 s 128 ABC) : Calls Try.prog 13 #[.pointer (some ⟨b, 0, none⟩), .int .i64 2, .int .i64 3, .agg bootA.cells] w fun e w' => e = .returned (.int .i64 0) ∧ Below w.heap.size w w' := by
  have := whole_At b B s 2 3 3 bootA w h (la.down.trans rfl) (by rw [la.n, S1_n]; omega) (by omega) (by omega) rfl (len_shaF ABC)
  rw [whole_yes la] at this
  exact this
theorem whole_none (b B : Nat) (s : DS) (w : World) (h : At w b B s) (la : Laid S1 s 128 ABC) : Calls Try.prog 13 #[.pointer (some ⟨b, 0, none⟩), .int .i64 5, .int .i64 3, .agg bootA.cells] w fun e w' => e = .returned (.int .i64 80) ∧ Below w.heap.size w w' := by
  have := whole_At b B s 5 3 3 bootA w h (la.down.trans rfl) (by rw [la.n, S1_n]; omega) (by omega) (by omega) rfl (len_shaF ABC)
  rw [whole_not la] at this
  exact this
theorem put_not (b B : Nat) (s : DS) (w : World) (h : At w b B s) (la : Laid S1 s 128 ABC) : Calls Try.prog 11 #[.pointer (some ⟨b, 0, none⟩), .int .i64 2, .int .i64 3, .int .i64 190, .slice (some ⟨w.heap.size, 0, none⟩) 3 3] (w.alloc (.cells #[.int .u8 97, .int .u8 98, .int .u8 99] 5 (3, 4))) fun e w' => e = .returned (.int .i64 1) ∧ w.alloc (.cells #[.int .u8 97, .int .u8 98, .int .u8 99] 5 (3, 4)) = w' :=
  put_no_At b B s 2 3 190 3 3 _ (w.alloc (.cells #[.int .u8 97, .int .u8 98, .int .u8 99] 5 (3, 4))) (h.below ((Below.refl _ _).alloc (Nat.le_refl _) _)) (by rw [la.n, S1_n]; omega) (by omega) (by omega) (by omega)
set_option maxRecDepth 100000 in
set_option maxHeartbeats 2000000 in
theorem awake_any (w : World) : Calls Try.prog 8 #[] w fun e w' => e = .returned (.bool true) ∧ Below w.heap.size w w' := by
  have kc := fun (w : World) (C : Array Value) (n c : Nat) => Lib.run_convert_bytes_const (P := Try.prog) w 22 5 C n c Try.underlying22 Try.underlying5
  go_enter Try.func8, Try.ntmps8
  go_wp2_with (first
    | (go_at_call 9; refine (new_At 10 _ (by omega)).mono ?_; rintro e w1 ⟨b, rfl, a1, b1⟩; have A1 := Lib.hid a1; have C1 := Lib.hid b1; clear a1 b1)
    | (go_at_call 14; have cc := start_none b w.heap.size (newS 10) 0 BT.zero w1 A1.out rfl (by omega) (by show (2 : Int) ≤ 10; omega) (best_new 10 0 (by omega) (by omega)); (with_reducible refine cc.mono ?_); clear cc; rintro e w2 ⟨rfl, b2⟩; have B2 := Lib.hid b2; clear b2)
    | (refine wpList_new rfl 31 rfl _ run_zero31 w2.heap.size rfl ?_; intro w3 g0 hs3 hb3; have G3 := Lib.hid (show Blk w3 w2.heap.size 31 BT.zero.cells from g0); have B3 := Lib.hid hb3; clear g0 hb3)
    | (refine wpList_store_blk rfl 31 _ _ rfl w2.heap.size 31 _ BT.zero.cells rfl rfl G3.out rfl size31 (one_BT _) ?_; intro w4 g4 ho4; have A4 := Lib.hid (A1.out.below (below_var B2.out B3.out ho4)); have C4 := Lib.hid (Below.on C1.out (below_var B2.out B3.out ho4)); clear g4 ho4)
    | (go_at_call 10; have cc := sum_abc w4; (with_reducible refine cc.mono ?_); clear cc; rintro e w5 ⟨rfl, b5⟩; have A5 := Lib.hid (A4.out.below b5); have C5 := Lib.hid (Below.on C4.out b5); clear b5)
    | (go_at_call 12; rw [built_U8 1 0 3 (shaF ABC) (len_shaF _), show (⟨1, 0, 3, shaF ABC⟩ : BT) = bootA from rfl]; have cc := point_yes b w.heap.size (newS 10) 0 bootA 0 w5 A5.out C5.out.size rfl (by omega) (by show (2 : Int) ≤ 10; omega) bootA_wf bootA_may (by rw [best_new 10 0 (by omega) (by omega)]) (by omega); (with_reducible refine cc.mono ?_); clear cc; rintro e w6 ⟨rfl, a6, t6⟩; have A6 := Lib.hid (show At w6 b w.heap.size S1 from a6); have C6 := Lib.hid (Below.turn C5.out t6); clear a6 t6)
    | (go_at_call 14; have cc := start_good b w.heap.size S1 0 bootA 1 w6 A6.out rfl (by omega) (by show (2 : Int) ≤ 10; omega) best_S1 (by omega); (with_reducible refine cc.mono ?_); clear cc; rintro e w7 ⟨rfl, b7⟩; have B7 := Lib.hid b7; clear b7)
    | (refine wpList_new rfl 31 rfl _ run_zero31 w7.heap.size rfl ?_; intro w8 g0 hs8 hb8; have G8 := Lib.hid (show Blk w8 w7.heap.size 31 BT.zero.cells from g0); have B8 := Lib.hid hb8; clear g0 hb8)
    | (refine wpList_store_blk rfl 31 _ _ rfl w7.heap.size 31 _ bootA.cells rfl rfl G8.out (by rw [size_BT _ (len_shaF ABC)]; rfl) (by rw [size_BT _ (len_shaF ABC)]; exact size31) (one_BT _) ?_; intro w9 g9 ho9; have G9 := Lib.hid g9; have A9 := Lib.hid (A6.out.below (below_var B7.out B8.out ho9)); have C9 := Lib.hid (Below.on C6.out (below_var B7.out B8.out ho9)); clear g9 ho9)
    | (go_at_call 11; have cc := put_abc b w.heap.size S1 w9 A9.out C9.out.size rfl (by decide); (with_reducible refine cc.mono ?_); clear cc; rintro e w10 ⟨rfl, s2, a10, la, t10⟩; have LA := Lib.hid la; have A10 := Lib.hid a10; have C10 := Lib.hid (Below.turn C9.out t10); have G10 := Lib.hid (t10.blk _ _ _ G9.out (by decide) (by decide) (by decide)); clear a10 la t10)
    | (go_at_call 42; refine (get_At b w.heap.size s2 2 3 3 w10 A10.out (LA.out.down.trans rfl) (by rw [LA.out.n, S1_n]; omega) (by omega) (by omega)).mono ?_; rintro e w11 ⟨g, cap, rfl, b11, hg1, hg2, hcap, hc⟩
       have kS : (convert 22 9 (.slice (some ⟨g, 0, none⟩) 3 cap)).run Try.prog w11 = .ok (.string ⟨#[97, 98, 99]⟩) w11 := string_abc w11 g cap s2 LA.out hc
       have A11 := Lib.hid (A10.out.below b11); have C11 := Lib.hid (Below.on C10.out b11); have G11 := Lib.hid (show Blk w11 w7.heap.size 31 bootA.cells from (b11.block _ G10.out.lt).trans G10.out); have cA : w11.cell? ⟨w7.heap.size, 0, none⟩ = some (.int .i64 1) := (by rw [G11.out.cell]; rfl); clear b11 hg1 hg2 hcap hc)
    | (refine wpList_load_row_w rfl 31 _ rfl w7.heap.size rfl 31 bootA.cells (0, 0) _ G11.out Try.underlying31 rfl (by rw [size_BT _ (len_shaF ABC)]; exact size31) ?_)
    | (go_at_call 13; have cc := whole_abc b w.heap.size s2 w11 A11.out LA.out; (with_reducible refine cc.mono ?_); clear cc; rintro e w12 ⟨rfl, b12⟩
       have A12 := Lib.hid (A11.out.below b12); have C12 := Lib.hid (Below.on C11.out b12); have G12 := Lib.hid (show Blk w12 w7.heap.size 31 bootA.cells from (b12.block _ G11.out.lt).trans G11.out); clear b12)
    | (refine wpList_load_row_w rfl 31 _ rfl w7.heap.size rfl 31 bootA.cells (0, 0) _ G12.out Try.underlying31 rfl (by rw [size_BT _ (len_shaF ABC)]; exact size31) ?_)
    | (go_at_call 13; have cc := whole_none b w.heap.size s2 w12 A12.out LA.out; (with_reducible refine cc.mono ?_); clear cc; rintro e w13 ⟨rfl, b13⟩
       have A13 := Lib.hid (A12.out.below b13); have C13 := Lib.hid (Below.on C12.out b13); clear b13)
    | (go_at_call 43; refine (blocks_any 65 _ (by omega) (by omega)).mono ?_; rintro e w' ⟨rfl, rfl⟩)
    | (go_at_call 11; have cc := put_not b w.heap.size s2 w13 A13.out LA.out; (with_reducible refine cc.mono ?_); clear cc; rintro e w' ⟨rfl, rfl⟩))
  go_ret
  exact ⟨rfl, Below.then_ C13.out C13.out.size ((Below.refl _ _).alloc (Nat.le_refl _) _)⟩
end Go.Proofs.Ytfodboooopkheaa
