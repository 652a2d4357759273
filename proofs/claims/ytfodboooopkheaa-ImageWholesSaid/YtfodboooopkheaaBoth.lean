/- shipwrightlaw08.ImageBoth answers true. -/
import Derived.Test.YtfodboooopkheaaBothP
import Derived.Test.YtfodboooopkheaaKeep
namespace Go.Proofs.Ytfodboooopkheaa
open Go.RowKit

/-- the two boots in variables of their own -/
def Both0 (a b : BT) (w : World) : World := (w.alloc (.cells a.cells 31)).alloc (.cells b.cells 31)
theorem both0_a (a b : BT) (w : World) : Blk (Both0 a b w) w.heap.size 31 a.cells := (Blk.new w 31 a.cells).alloc _
theorem both0_b (a b : BT) (w : World) : Blk (Both0 a b w) (w.heap.size + 1) 31 b.cells := by
  have := Blk.new (w.alloc (.cells a.cells 31)) 31 b.cells
  rwa [World.size_alloc] at this
theorem both0_below (a b : BT) (w : World) : Below w.heap.size w (Both0 a b w) := ((Below.refl _ _).alloc (Nat.le_refl _) _).alloc (by simp) _
theorem Keep.ne_of {w0 w : World} {d B g : Nat} {s : DS} {L : List Var} {t : TypeId} {cs : Array Value} (h : Keep w0 w d B s ((g, t, cs) :: L)) (hn : ∀ q ∈ L, q.2.1 ≠ t) : ∀ q ∈ L, q.1 ≠ g := fun q hq => by
  have := Blk.ne_ (h.blk q (.tail _ hq)).1 (h.blk _ (.head _)).1 (hn q hq)
  exact this
set_option maxRecDepth 100000 in
set_option maxHeartbeats 2000000 in
theorem both_noA (a b : BT) (at_ by_ : Int) (w : World) (ha : a.wf) (hm : ¬ a.may) : Calls Try.prog 4 #[.agg a.cells, .agg b.cells, .int .u8 at_, .int .u8 by_] w fun e w' => e = .returned (.bool true) ∧ Below w.heap.size w w' := by
  have C0 := Lib.hid (both0_below a b w)
  have A0 := Lib.hid (both0_a a b w)
  have B0 := Lib.hid (both0_b a b w)
  have W0 : (w.alloc (.cells a.cells 31)).alloc (.cells b.cells 31) = Both0 a b w := rfl
  go_enter Try.func4, Try.ntmps4
  go_wp2_with (first
    | (go_at_call 8; refine (awake_any (Both0 a b w)).mono ?_; rintro e w1 ⟨rfl, b1⟩
       have C1 := Lib.hid (Below.on C0.out b1)
       have A1 := Lib.hid (show Blk w1 w.heap.size 31 a.cells from (b1.block _ A0.out.lt).trans A0.out)
       have B1 := Lib.hid (show Blk w1 (w.heap.size + 1) 31 b.cells from (b1.block _ B0.out.lt).trans B0.out); clear b1)
    | (go_at_call 9; refine (new_At 2 w1 (by omega)).mono ?_; rintro e w2 ⟨d, rfl, a2, b2⟩
       have K2 := Lib.hid (show Keep w w2 d w1.heap.size (newS 2) [(w.heap.size + 1, 31, b.cells), (w.heap.size, 31, a.cells)] from
         Keep.add (Keep.add ⟨Below.on C1.out b2, C1.out.size, b2.size, a2, fun q hq => by cases hq⟩ ((b2.block _ A1.out.lt).trans A1.out) (by decide) (by decide) (by decide)) ((b2.block _ B1.out.lt).trans B1.out) (by decide) (by decide) (by decide)); clear a2 b2)
    | (refine wpList_load_row rfl 31 _ rfl w.heap.size rfl 31 a.cells (0, 0) _ K2.out.v1 Try.underlying31 rfl (size_B31 a ha) ?_)
    | (go_at_call 12; refine (point_no d w1.heap.size (newS 2) 0 a w2 K2.out.at_ K2.out.base rfl (by omega) (by show (2 : Int) ≤ 2; omega) ha hm).mono ?_; rintro e w3 ⟨rfl, a3, t3⟩; have K3 := Lib.hid (K2.out.turn a3 t3); clear a3 t3))
  go_ret
  exact ⟨rfl, K3.out.below⟩
set_option maxRecDepth 100000 in
set_option maxHeartbeats 2000000 in
theorem both_noB (a b : BT) (at_ by_ : Int) (w : World) (ha : a.wf) (hb : b.wf) (hm : a.may) (hm' : ¬ b.may) : Calls Try.prog 4 #[.agg a.cells, .agg b.cells, .int .u8 at_, .int .u8 by_] w fun e w' => e = .returned (.bool true) ∧ Below w.heap.size w w' := by
  have C0 := Lib.hid (both0_below a b w)
  have A0 := Lib.hid (both0_a a b w)
  have B0 := Lib.hid (both0_b a b w)
  have W0 : (w.alloc (.cells a.cells 31)).alloc (.cells b.cells 31) = Both0 a b w := rfl
  go_enter Try.func4, Try.ntmps4
  go_wp2_with (first
    | (go_at_call 8; refine (awake_any (Both0 a b w)).mono ?_; rintro e w1 ⟨rfl, b1⟩
       have C1 := Lib.hid (Below.on C0.out b1)
       have A1 := Lib.hid (show Blk w1 w.heap.size 31 a.cells from (b1.block _ A0.out.lt).trans A0.out)
       have B1 := Lib.hid (show Blk w1 (w.heap.size + 1) 31 b.cells from (b1.block _ B0.out.lt).trans B0.out); clear b1)
    | (go_at_call 9; refine (new_At 2 w1 (by omega)).mono ?_; rintro e w2 ⟨d, rfl, a2, b2⟩
       have K2 := Lib.hid (show Keep w w2 d w1.heap.size (newS 2) [(w.heap.size + 1, 31, b.cells), (w.heap.size, 31, a.cells)] from
         Keep.add (Keep.add ⟨Below.on C1.out b2, C1.out.size, b2.size, a2, fun q hq => by cases hq⟩ ((b2.block _ A1.out.lt).trans A1.out) (by decide) (by decide) (by decide)) ((b2.block _ B1.out.lt).trans B1.out) (by decide) (by decide) (by decide)); clear a2 b2)
    | (refine wpList_load_row rfl 31 _ rfl w.heap.size rfl 31 a.cells (0, 0) _ K2.out.v1 Try.underlying31 rfl (size_B31 a ha) ?_)
    | (go_at_call 12; have cc := point_yes d w1.heap.size (newS 2) 0 a 0 w2 K2.out.at_ K2.out.base rfl (by omega) (by show (2 : Int) ≤ 2; omega) ha hm (by rw [best_new 2 0 (by omega) (by omega)]) (by omega); (with_reducible refine cc.mono ?_); clear cc; rintro e w3 ⟨rfl, a3, t3⟩
       have K3 := Lib.hid (show Keep w w3 d w1.heap.size (F1 a) [(w.heap.size + 1, 31, b.cells), (w.heap.size, 31, a.cells)] from K2.out.turn a3 t3); clear a3 t3)
    | (refine wpList_load_row_w rfl 31 _ rfl (w.heap.size + 1) rfl 31 b.cells (0, 0) _ K3.out.v0 Try.underlying31 rfl (size_B31 b hb) ?_)
    | (go_at_call 12; have cc := point_no d w1.heap.size (F1 a) 0 b w3 K3.out.at_ K3.out.base rfl (by omega) (by show (2 : Int) ≤ 2; omega) hb hm'; (with_reducible refine cc.mono ?_); clear cc; rintro e w4 ⟨rfl, a4, t4⟩; have K4 := Lib.hid (K3.out.turn a4 t4); clear a4 t4))
  go_ret
  exact ⟨rfl, K4.out.below⟩
set_option maxRecDepth 100000 in
set_option maxHeartbeats 4000000 in
theorem both_same (a b : BT) (m : Nat) (x8 y : Int) (w : World) (ha : a.wf) (hb : b.wf) (hm : a.may) (hm' : b.may) (hm0 : m ≤ 255)
    (hx8 : (encB b 2)[m % 8]? = some x8) (hy : y = bits .xor .u8 x8 0) (hbest : bestN ((F2 a b).put 1 ((encB b 2).set (m % 8) y)) 0 2 = (b, 2)) (hby : Byt ((encB b 2).set (m % 8) y))
    :
    Calls Try.prog 4 #[.agg a.cells, .agg b.cells, .int .u8 (m : Int), .int .u8 0] w fun e w' => e = .returned (.bool true) ∧ Below w.heap.size w w' := by
  have C0 := Lib.hid (both0_below a b w)
  have A0 := Lib.hid (both0_a a b w)
  have B0 := Lib.hid (both0_b a b w)
  have W0 : (w.alloc (.cells a.cells 31)).alloc (.cells b.cells 31) = Both0 a b w := rfl
  have HY := Lib.hid hy.symm
  have X8 := Lib.hid hx8
  have HB := Lib.hid hbest
  have HBY := Lib.hid hby
  have L1 := Lib.hid (len_encB b 2 hb.2.2.2.2.2.2.1)
  have L2 := Lib.hid (show ((encB b 2).set (m % 8) y).length = 64 by rw [List.length_set]; exact L1.out)
  have RD := Lib.hid (blk_F2_1 ha hb)
  clear hx8 hy hbest hby
  go_enter Try.func4, Try.ntmps4
  go_wp2_with (first
    | (go_at_call 8; refine (awake_any (Both0 a b w)).mono ?_; rintro e w1 ⟨rfl, b1⟩
       have C1 := Lib.hid (Below.on C0.out b1)
       have A1 := Lib.hid (show Blk w1 w.heap.size 31 a.cells from (b1.block _ A0.out.lt).trans A0.out)
       have B1 := Lib.hid (show Blk w1 (w.heap.size + 1) 31 b.cells from (b1.block _ B0.out.lt).trans B0.out); clear b1)
    | (go_at_call 9; refine (new_At 2 w1 (by omega)).mono ?_; rintro e w2 ⟨d, rfl, a2, b2⟩
       have K2 := Lib.hid (show Keep w w2 d w1.heap.size (newS 2) [(w.heap.size + 1, 31, b.cells), (w.heap.size, 31, a.cells)] from
         Keep.add (Keep.add ⟨Below.on C1.out b2, C1.out.size, b2.size, a2, fun q hq => by cases hq⟩ ((b2.block _ A1.out.lt).trans A1.out) (by decide) (by decide) (by decide)) ((b2.block _ B1.out.lt).trans B1.out) (by decide) (by decide) (by decide)); clear a2 b2)
    | (refine wpList_load_row rfl 31 _ rfl w.heap.size rfl 31 a.cells (0, 0) _ K2.out.v1 Try.underlying31 rfl (size_B31 a ha) ?_)
    | (go_at_call 12; have cc := point_yes d w1.heap.size (newS 2) 0 a 0 w2 K2.out.at_ K2.out.base rfl (by omega) (by show (2 : Int) ≤ 2; omega) ha hm (by rw [best_new 2 0 (by omega) (by omega)]) (by omega); (with_reducible refine cc.mono ?_); clear cc; rintro e w3 ⟨rfl, a3, t3⟩
       have K3 := Lib.hid (show Keep w w3 d w1.heap.size (F1 a) [(w.heap.size + 1, 31, b.cells), (w.heap.size, 31, a.cells)] from K2.out.turn a3 t3); clear a3 t3)
    | (refine wpList_load_row_w rfl 31 _ rfl (w.heap.size + 1) rfl 31 b.cells (0, 0) _ K3.out.v0 Try.underlying31 rfl (size_B31 b hb) ?_)
    | (go_at_call 12; have cc := point_yes d w1.heap.size (F1 a) 0 b 1 w3 K3.out.at_ K3.out.base rfl (by omega) (by show (2 : Int) ≤ 2; omega) hb hm' (by rw [best_F1 ha hm]) (by omega); (with_reducible refine cc.mono ?_); clear cc; rintro e w4 ⟨rfl, a4, t4⟩
       have K4 := Lib.hid (show Keep w w4 d w1.heap.size (F2 a b) [(w.heap.size + 1, 31, b.cells), (w.heap.size, 31, a.cells)] from K3.out.turn a4 t4); clear a4 t4)
    | (go_at_call 14; have cc := start_good d w1.heap.size (F2 a b) 0 b 2 w4 K4.out.at_ rfl (by omega) (by show (2 : Int) ≤ 2; omega) (best_F2 ha hm hb hm') (by omega); (with_reducible refine cc.mono ?_); clear cc; rintro e w5 ⟨rfl, b5⟩; have B5 := Lib.hid b5; clear b5)
    | (refine wpList_new rfl 31 rfl _ run_zero31 w5.heap.size rfl ?_; intro w6 g0 hs6 hb6; have G6 := Lib.hid (show Blk w6 w5.heap.size 31 BT.zero.cells from g0); have B6 := Lib.hid hb6; clear g0 hb6)
    | (refine wpList_store_blk rfl 31 _ _ rfl w5.heap.size 31 _ b.cells rfl rfl G6.out (size_B0 b hb) (size_B31 b hb) (one_BT _) ?_; intro w7 g7 ho7; have K7 := Lib.hid (K4.out.var B5.out B6.out ho7 g7 (by decide) (by decide) (by decide)); clear g7 ho7)
    | (go_at_call 15; refine (read_At d w1.heap.size (F2 a b) 1 w7 K7.out.at_ rfl (by omega) (by show (1 : Int) < 2; omega)).mono ?_; rw [RD.out]; rintro e w8 ⟨rfl, b8⟩; have B8 := Lib.hid b8; clear b8)
    | (refine wpList_new rfl 38 rfl _ run_zero38 w8.heap.size rfl ?_; intro w9 g0 hs9 hb9; have G9 := Lib.hid (show Blk w9 w8.heap.size 38 (U8 Z64) from g0); have B9 := Lib.hid hb9; clear g0 hb9)
    | (refine wpList_store_blk rfl 38 _ _ rfl w8.heap.size 38 _ (U8 (encB b 2)) rfl rfl G9.out (size_L0 _ L1.out) (size_L38 _ L1.out) (one_U8 _) ?_; intro w10 g10 ho10; have K10 := Lib.hid (K7.out.var B8.out B9.out ho10 g10 (by decide) (by decide) (by decide)); have SZ := Lib.hid (Nat.le_trans K7.out.base B8.out.size)
       have cY : w10.cell? ⟨w8.heap.size, m % 8, none⟩ = some (.int .u8 x8) := (by rw [g10.cell, get_U8, X8.out]; rfl); clear g10 ho10)
    | (rw [HY.out]; refine wpList_store_cell rfl 5 _ _ rfl w8.heap.size (m % 8) 38 (U8 (encB b 2)) (.int .u8 y) rfl rfl K10.out.v0 (by rw [size_U8, L1.out]; omega) size1_5 rfl rfl ?_; intro w11 g11 ho11
       have K11 := Lib.hid (K10.out.set SZ.out ho11 (set_U8 _ _ _ ▸ g11) (K10.out.ne_of (by simp))); clear g11 ho11)
    | (refine wpList_load_row rfl 38 _ rfl w8.heap.size rfl 38 (U8 ((encB b 2).set (m % 8) y)) (0, 0) _ K11.out.v0 Try.underlying38 rfl (size_L38 _ L2.out) ?_)
    | (go_at_call 16; refine (write_At d w1.heap.size (F2 a b) 1 ((encB b 2).set (m % 8) y) w11 K11.out.at_ K11.out.base rfl (by omega) (by show (1 : Int) < 2; omega) L2.out HBY.out).mono ?_; rintro e w12 ⟨rfl, a12, t12⟩; have K12 := Lib.hid (K11.out.turn a12 t12); clear a12 t12)
    | (go_at_call 14; have cc := start_good d w1.heap.size _ 0 b 2 w12 K12.out.at_ rfl (by omega) (by show (2 : Int) ≤ 2; omega) HB.out (by omega); (with_reducible refine cc.mono ?_); clear cc; rintro e w13 ⟨rfl, b13⟩; have B13 := Lib.hid b13; clear b13)
    | (refine wpList_new rfl 31 rfl _ run_zero31 w13.heap.size rfl ?_; intro w14 g0 hs14 hb14; have G14 := Lib.hid (show Blk w14 w13.heap.size 31 BT.zero.cells from g0); have B14 := Lib.hid hb14; clear g0 hb14)
    | (refine wpList_store_blk rfl 31 _ _ rfl w13.heap.size 31 _ b.cells rfl rfl G14.out (size_B0 b hb) (size_B31 b hb) (one_BT _) ?_; intro w15 g15 ho15; have K15 := Lib.hid (K12.out.var B13.out B14.out ho15 g15 (by decide) (by decide) (by decide)); clear g15 ho15)
    | (refine wpList_load_row_w rfl 31 _ rfl w5.heap.size rfl 31 b.cells (0, 0) _ K15.out.v2 Try.underlying31 rfl (size_B31 b hb) ?_)
    | (refine wpList_load_row_w rfl 31 _ rfl (w.heap.size + 1) rfl 31 b.cells (0, 0) _ K15.out.v3 Try.underlying31 rfl (size_B31 b hb) ?_)
    | (refine wpList_load_row_w rfl 31 _ rfl w13.heap.size rfl 31 b.cells (0, 0) _ K15.out.v0 Try.underlying31 rfl (size_B31 b hb) ?_)
    | (refine wpList_load_row_w rfl 31 _ rfl w.heap.size rfl 31 a.cells (0, 0) _ K15.out.v4 Try.underlying31 rfl (size_B31 a ha) ?_)
    | (refine wpList_bin_w rfl .eql 31 31 _ _ rfl (.agg b.cells) (.agg b.cells) rfl rfl (.bool true) (guard31 _ _ _ b b _) (eql_same b hb w15) ?_)
    | (refine wpList_bin_w rfl .eql 31 31 _ _ rfl (.agg b.cells) (.agg b.cells) rfl rfl (.bool true) (guard31 _ _ _ b b _) (eql_same b hb w15) ?_))
  go_ret
  exact ⟨rfl, K15.out.below⟩
set_option maxRecDepth 100000 in
set_option maxHeartbeats 4000000 in
theorem both_spoiled (a b : BT) (m : Nat) (by_ x8 y : Int) (w : World) (ha : a.wf) (hb : b.wf) (hm : a.may) (hm' : b.may) (hm0 : m ≤ 255) (_hb0 : 0 ≤ by_) (_hb1 : by_ ≤ 255)
    (hx8 : (encB b 2)[m % 8]? = some x8) (hy : y = bits .xor .u8 x8 by_) (hbest : bestN ((F2 a b).put 1 ((encB b 2).set (m % 8) y)) 0 2 = (a, 1)) (hby : Byt ((encB b 2).set (m % 8) y))
    (hne : (by_ == 0) = false) :
    Calls Try.prog 4 #[.agg a.cells, .agg b.cells, .int .u8 (m : Int), .int .u8 by_] w fun e w' => e = .returned (.bool true) ∧ Below w.heap.size w w' := by
  have C0 := Lib.hid (both0_below a b w)
  have A0 := Lib.hid (both0_a a b w)
  have B0 := Lib.hid (both0_b a b w)
  have W0 : (w.alloc (.cells a.cells 31)).alloc (.cells b.cells 31) = Both0 a b w := rfl
  have HY := Lib.hid hy.symm
  have X8 := Lib.hid hx8
  have HB := Lib.hid hbest
  have HBY := Lib.hid hby
  have L1 := Lib.hid (len_encB b 2 hb.2.2.2.2.2.2.1)
  have L2 := Lib.hid (show ((encB b 2).set (m % 8) y).length = 64 by rw [List.length_set]; exact L1.out)
  have RD := Lib.hid (blk_F2_1 ha hb)
  clear hx8 hy hbest hby
  go_enter Try.func4, Try.ntmps4
  go_wp2_with (first
    | (go_at_call 8; refine (awake_any (Both0 a b w)).mono ?_; rintro e w1 ⟨rfl, b1⟩
       have C1 := Lib.hid (Below.on C0.out b1)
       have A1 := Lib.hid (show Blk w1 w.heap.size 31 a.cells from (b1.block _ A0.out.lt).trans A0.out)
       have B1 := Lib.hid (show Blk w1 (w.heap.size + 1) 31 b.cells from (b1.block _ B0.out.lt).trans B0.out); clear b1)
    | (go_at_call 9; refine (new_At 2 w1 (by omega)).mono ?_; rintro e w2 ⟨d, rfl, a2, b2⟩
       have K2 := Lib.hid (show Keep w w2 d w1.heap.size (newS 2) [(w.heap.size + 1, 31, b.cells), (w.heap.size, 31, a.cells)] from
         Keep.add (Keep.add ⟨Below.on C1.out b2, C1.out.size, b2.size, a2, fun q hq => by cases hq⟩ ((b2.block _ A1.out.lt).trans A1.out) (by decide) (by decide) (by decide)) ((b2.block _ B1.out.lt).trans B1.out) (by decide) (by decide) (by decide)); clear a2 b2)
    | (refine wpList_load_row rfl 31 _ rfl w.heap.size rfl 31 a.cells (0, 0) _ K2.out.v1 Try.underlying31 rfl (size_B31 a ha) ?_)
    | (go_at_call 12; have cc := point_yes d w1.heap.size (newS 2) 0 a 0 w2 K2.out.at_ K2.out.base rfl (by omega) (by show (2 : Int) ≤ 2; omega) ha hm (by rw [best_new 2 0 (by omega) (by omega)]) (by omega); (with_reducible refine cc.mono ?_); clear cc; rintro e w3 ⟨rfl, a3, t3⟩
       have K3 := Lib.hid (show Keep w w3 d w1.heap.size (F1 a) [(w.heap.size + 1, 31, b.cells), (w.heap.size, 31, a.cells)] from K2.out.turn a3 t3); clear a3 t3)
    | (refine wpList_load_row_w rfl 31 _ rfl (w.heap.size + 1) rfl 31 b.cells (0, 0) _ K3.out.v0 Try.underlying31 rfl (size_B31 b hb) ?_)
    | (go_at_call 12; have cc := point_yes d w1.heap.size (F1 a) 0 b 1 w3 K3.out.at_ K3.out.base rfl (by omega) (by show (2 : Int) ≤ 2; omega) hb hm' (by rw [best_F1 ha hm]) (by omega); (with_reducible refine cc.mono ?_); clear cc; rintro e w4 ⟨rfl, a4, t4⟩
       have K4 := Lib.hid (show Keep w w4 d w1.heap.size (F2 a b) [(w.heap.size + 1, 31, b.cells), (w.heap.size, 31, a.cells)] from K3.out.turn a4 t4); clear a4 t4)
    | (go_at_call 14; have cc := start_good d w1.heap.size (F2 a b) 0 b 2 w4 K4.out.at_ rfl (by omega) (by show (2 : Int) ≤ 2; omega) (best_F2 ha hm hb hm') (by omega); (with_reducible refine cc.mono ?_); clear cc; rintro e w5 ⟨rfl, b5⟩; have B5 := Lib.hid b5; clear b5)
    | (refine wpList_new rfl 31 rfl _ run_zero31 w5.heap.size rfl ?_; intro w6 g0 hs6 hb6; have G6 := Lib.hid (show Blk w6 w5.heap.size 31 BT.zero.cells from g0); have B6 := Lib.hid hb6; clear g0 hb6)
    | (refine wpList_store_blk rfl 31 _ _ rfl w5.heap.size 31 _ b.cells rfl rfl G6.out (size_B0 b hb) (size_B31 b hb) (one_BT _) ?_; intro w7 g7 ho7; have K7 := Lib.hid (K4.out.var B5.out B6.out ho7 g7 (by decide) (by decide) (by decide)); clear g7 ho7)
    | (go_at_call 15; refine (read_At d w1.heap.size (F2 a b) 1 w7 K7.out.at_ rfl (by omega) (by show (1 : Int) < 2; omega)).mono ?_; rw [RD.out]; rintro e w8 ⟨rfl, b8⟩; have B8 := Lib.hid b8; clear b8)
    | (refine wpList_new rfl 38 rfl _ run_zero38 w8.heap.size rfl ?_; intro w9 g0 hs9 hb9; have G9 := Lib.hid (show Blk w9 w8.heap.size 38 (U8 Z64) from g0); have B9 := Lib.hid hb9; clear g0 hb9)
    | (refine wpList_store_blk rfl 38 _ _ rfl w8.heap.size 38 _ (U8 (encB b 2)) rfl rfl G9.out (size_L0 _ L1.out) (size_L38 _ L1.out) (one_U8 _) ?_; intro w10 g10 ho10; have K10 := Lib.hid (K7.out.var B8.out B9.out ho10 g10 (by decide) (by decide) (by decide)); have SZ := Lib.hid (Nat.le_trans K7.out.base B8.out.size)
       have cY : w10.cell? ⟨w8.heap.size, m % 8, none⟩ = some (.int .u8 x8) := (by rw [g10.cell, get_U8, X8.out]; rfl); clear g10 ho10)
    | (rw [HY.out]; refine wpList_store_cell rfl 5 _ _ rfl w8.heap.size (m % 8) 38 (U8 (encB b 2)) (.int .u8 y) rfl rfl K10.out.v0 (by rw [size_U8, L1.out]; omega) size1_5 rfl rfl ?_; intro w11 g11 ho11
       have K11 := Lib.hid (K10.out.set SZ.out ho11 (set_U8 _ _ _ ▸ g11) (K10.out.ne_of (by simp))); clear g11 ho11)
    | (refine wpList_load_row rfl 38 _ rfl w8.heap.size rfl 38 (U8 ((encB b 2).set (m % 8) y)) (0, 0) _ K11.out.v0 Try.underlying38 rfl (size_L38 _ L2.out) ?_)
    | (go_at_call 16; refine (write_At d w1.heap.size (F2 a b) 1 ((encB b 2).set (m % 8) y) w11 K11.out.at_ K11.out.base rfl (by omega) (by show (1 : Int) < 2; omega) L2.out HBY.out).mono ?_; rintro e w12 ⟨rfl, a12, t12⟩; have K12 := Lib.hid (K11.out.turn a12 t12); clear a12 t12)
    | (go_at_call 14; have cc := start_good d w1.heap.size _ 0 a 1 w12 K12.out.at_ rfl (by omega) (by show (2 : Int) ≤ 2; omega) HB.out (by omega); (with_reducible refine cc.mono ?_); clear cc; rintro e w13 ⟨rfl, b13⟩; have B13 := Lib.hid b13; clear b13)
    | (refine wpList_new rfl 31 rfl _ run_zero31 w13.heap.size rfl ?_; intro w14 g0 hs14 hb14; have G14 := Lib.hid (show Blk w14 w13.heap.size 31 BT.zero.cells from g0); have B14 := Lib.hid hb14; clear g0 hb14)
    | (refine wpList_store_blk rfl 31 _ _ rfl w13.heap.size 31 _ a.cells rfl rfl G14.out (size_B0 a ha) (size_B31 a ha) (one_BT _) ?_; intro w15 g15 ho15; have K15 := Lib.hid (K12.out.var B13.out B14.out ho15 g15 (by decide) (by decide) (by decide)); clear g15 ho15)
    | (refine wpList_load_row_w rfl 31 _ rfl w5.heap.size rfl 31 b.cells (0, 0) _ K15.out.v2 Try.underlying31 rfl (size_B31 b hb) ?_)
    | (refine wpList_load_row_w rfl 31 _ rfl (w.heap.size + 1) rfl 31 b.cells (0, 0) _ K15.out.v3 Try.underlying31 rfl (size_B31 b hb) ?_)
    | (refine wpList_load_row_w rfl 31 _ rfl w13.heap.size rfl 31 a.cells (0, 0) _ K15.out.v0 Try.underlying31 rfl (size_B31 a ha) ?_)
    | (refine wpList_load_row_w rfl 31 _ rfl w.heap.size rfl 31 a.cells (0, 0) _ K15.out.v4 Try.underlying31 rfl (size_B31 a ha) ?_)
    | (refine wpList_bin_w rfl .eql 31 31 _ _ rfl (.agg b.cells) (.agg b.cells) rfl rfl (.bool true) (guard31 _ _ _ b b _) (eql_same b hb w15) ?_)
    | (refine wpList_bin_w rfl .eql 31 31 _ _ rfl (.agg a.cells) (.agg a.cells) rfl rfl (.bool true) (guard31 _ _ _ a a _) (eql_same a ha w15) ?_))
  go_ret
  exact ⟨rfl, K15.out.below⟩
theorem both_any (a b : BT) (m : Nat) (by_ : Int) (w : World) (ha : a.wf) (hb : b.wf) (hm0 : m ≤ 255) (hb0 : 0 ≤ by_) (hb1 : by_ ≤ 255) :
    Calls Try.prog 4 #[.agg a.cells, .agg b.cells, .int .u8 (m : Int), .int .u8 by_] w fun e w' => e = .returned (.bool true) ∧ Below w.heap.size w w' := by
  by_cases hm : a.may
  · by_cases hm' : b.may
    · have hl := len_encB b 2 hb.2.2.2.2.2.2.1
      have hlt : m % 8 < (encB b 2).length := by omega
      have hL := byt_encB b 2 hb.2.2.2.2.2.2.1 hb.2.2.2.2.2.2.2 (by have := hm'.1; omega)
      obtain ⟨x0, x1, x2, x3⟩ := xor_some (encB b 2) (m % 8) hlt hL by_ hb0 hb1
      have hx8 : (encB b 2)[m % 8]? = some (encB b 2)[m % 8] := List.getElem?_eq_getElem hlt
      have hby := byt_set hL (m % 8) _ ⟨x0, x1⟩
      by_cases h0 : by_ = 0
      · subst h0
        have e : (encB b 2).set (m % 8) (bits .xor .u8 (encB b 2)[m % 8] 0) = encB b 2 := by rw [x3 rfl, List.set_getElem_self]
        exact both_same a b m _ _ w ha hb hm hm' hm0 hx8 rfl (by rw [e]; exact best_same ha hm hb hm') hby
      · refine both_spoiled a b m by_ _ _ w ha hb hm hm' hm0 hb0 hb1 hx8 rfl (best_spoiled ha hm hb (m % 8) _ (by omega) ⟨x0, x1⟩ ?_) hby (by simpa using h0)
        rw [hx8]
        intro h
        injection h with h
        exact x2 h0 h.symm
    · exact both_noB a b m by_ w ha hb hm hm'
  · exact both_noA a b m by_ w ha hm
end Go.Proofs.Ytfodboooopkheaa
