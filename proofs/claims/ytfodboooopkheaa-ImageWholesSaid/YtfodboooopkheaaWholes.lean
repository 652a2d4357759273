/- shipwrightlaw08.ImageWholes answers true. -/
import Derived.Test.YtfodboooopkheaaWholesP
import Derived.Test.YtfodboooopkheaaKeep
import Derived.Test.YtfodboooopkheaaVals
namespace Go.Proofs.Ytfodboooopkheaa
open Go.RowKit

section
variable {ops : Array Oper} {Q : Exit → Act → World → Prop} {rest : List Oper} {o : Oper} {a : Act} {w : World}
theorem sized5 (w : World) : (sizeOf 5).run Try.prog w = .ok 1 w := by
  have hs : (Try.prog.info? 5).map (·.size) = some 1 := size1_5
  cases hq : Try.prog.info? 5 with
  | none => simp [hq] at hs
  | some x =>
    have hs : x.size = 1 := by simpa [hq] using hs
    simp [sizeOf, typeInfo, hq, hs]
theorem elem22 : Try.prog.underlying 22 = some (.slice (Try.prog.elem 22)) := by kernel_rfl
theorem elem22' : Try.prog.elem 22 = 5 := by kernel_rfl
/-- b[k:] -/
theorem wpList_from22 (hgd : o.guard = none) (x y : Operand) (ho : o.op = .slice 22 x (some y) none none) (ad : Addr) (len cap k : Nat) (hx : a.eval x = .slice (some ad) len cap) (hy : a.eval y = .int .i64 (k : Int)) (hk : k ≤ len) (pa : Option Addr) (hpa : pa = if cap = k then some ad else some (ad.add k))
    (h : wpList Try.prog ops Q rest (a.put o.dst (.slice pa (len - k) (cap - k))) w) : wpList Try.prog ops Q (o :: rest) a w := by
  refine wpList_plain hgd fun K hK => ?_
  have hr : (Instr.sliceAt 22 (.slice (some ad) len cap) (some (.int .i64 (k : Int))) none none).run Try.prog w = .ok (.slice pa (len - k) (cap - k)) w := by
    rw [run_sliceAt_slice (P := Try.prog) w 22 _ _ _ _ elem22, run_slice_l (P := Try.prog) w 22 (some ad) len cap elem22 .i64 (k : Int) (by omega) (by omega), elem22', sized5, hpa]
    simp only [Result.andThen_ok, sliced, Int.toNat_natCast, Nat.mul_one, Option.map_some]
  unfold Oper.wp
  simp [execOp, ho, hx, hy, hr, Result.andThen]
  exact hK _ _ h
/-- b[:k] -/
theorem wpList_upto22 (hgd : o.guard = none) (x y : Operand) (ho : o.op = .slice 22 x none (some y) none) (ad : Addr) (len cap k : Nat) (hx : a.eval x = .slice (some ad) len cap) (hy : a.eval y = .int .i64 (k : Int)) (hk : k ≤ cap)
    (h : wpList Try.prog ops Q rest (a.put o.dst (.slice (some ad) k cap)) w) : wpList Try.prog ops Q (o :: rest) a w := by
  refine wpList_plain hgd fun K hK => ?_
  have hr : (Instr.sliceAt 22 (.slice (some ad) len cap) none (some (.int .i64 (k : Int))) none).run Try.prog w = .ok (.slice (some ad) k cap) w := by
    rw [run_sliceAt_slice (P := Try.prog) w 22 _ _ _ _ elem22, run_slice_h (P := Try.prog) w 22 (some ad) len cap elem22 .i64 (k : Int) (by omega) (by omega), elem22', sized5]
    simp only [Result.andThen_ok, sliced, Int.toNat_natCast, Nat.zero_mul, Nat.sub_zero, Option.map_some]
    have e : ad.add 0 = ad := add_zero ad
    rw [e, ite_self]
  unfold Oper.wp
  simp [execOp, ho, hx, hy, hr, Result.andThen]
  exact hK _ _ h
end
theorem put_len (b B : Nat) (s : DS) (from_ room at_ len : Nat) (pa : Option Addr) (ad : Addr) (cap : Nat) (l : List Int) (w : World) (hlen : l.length = len) (h : At w b B s) (hB : B ≤ w.heap.size) (hd : s.down = false) (hcap : len ≤ cap) (h1 : from_ + room ≤ s.n) (h2 : at_ + len ≤ 64 * room)
    (hb : Byt l) (hsrc : ∀ j, (hj : j < l.length) → w.cell? (ad.add j) = some (.int .u8 l[j])) (hbl : l ≠ [] → pa = some ad ∧ ad.block < B) :
    Calls Try.prog 11 #[.pointer (some ⟨b, 0, none⟩), .int .i64 (from_ : Int), .int .i64 (room : Int), .int .i64 (at_ : Int), .slice pa len cap] w fun e w' => e = .returned (.int .i64 0) ∧ ∃ s', At w' b B s' ∧ Laid s s' (64 * from_ + at_) l ∧ Turn B w w' := by
  subst hlen
  exact put_At b B s from_ room at_ pa ad cap l w h hB hd hcap h1 h2 hb hsrc hbl
theorem add_block (a : Addr) (n : Nat) : (a.add n).block = a.block := by unfold Addr.add; split <;> rfl
theorem built_32 (x m q : Int) (l : List Int) (hl : l.length = 32) :
    Array.foldl (fun (cs : Array Value) (x : Value × Nat) => cs.setIfInBounds (3 + x.snd) x.fst) #[Value.int IntKind.i64 x, Value.int IntKind.i64 m, Value.int IntKind.i64 q, Value.int IntKind.u8 0, Value.int IntKind.u8 0, Value.int IntKind.u8 0, Value.int IntKind.u8 0, Value.int IntKind.u8 0, Value.int IntKind.u8 0, Value.int IntKind.u8 0, Value.int IntKind.u8 0, Value.int IntKind.u8 0, Value.int IntKind.u8 0, Value.int IntKind.u8 0, Value.int IntKind.u8 0, Value.int IntKind.u8 0, Value.int IntKind.u8 0, Value.int IntKind.u8 0, Value.int IntKind.u8 0, Value.int IntKind.u8 0, Value.int IntKind.u8 0, Value.int IntKind.u8 0, Value.int IntKind.u8 0, Value.int IntKind.u8 0, Value.int IntKind.u8 0, Value.int IntKind.u8 0, Value.int IntKind.u8 0, Value.int IntKind.u8 0, Value.int IntKind.u8 0, Value.int IntKind.u8 0, Value.int IntKind.u8 0, Value.int IntKind.u8 0, Value.int IntKind.u8 0, Value.int IntKind.u8 0, Value.int IntKind.u8 0] ((U8 l).zipIdx 0) 0 32 = BT.cells ⟨x, m, q, l⟩ := by
  have h := built_U8 x m q l hl
  rwa [hl] at h
theorem sum_slice (V : World) (ad : Addr) (l : List Int) (n cap : Nat) (hn : l.length = n) (h6 : n ≤ 1000000) (hl : Byt l) (had : ad.block < V.heap.size) (hsrc : ∀ j, (hj : j < l.length) → V.cell? (ad.add j) = some (.int .u8 l[j])) :
    Calls Try.prog 10 #[.slice (some ⟨V.heap.size, 0, none⟩) 1 1] (V.alloc (.cells #[.slice (some ad) n cap] 22)) fun e w' => e = .returned (.agg (U8 (shaF l))) ∧ Below V.heap.size V w' := by
  subst hn
  have hb : Below V.heap.size V (V.alloc (.cells #[.slice (some ad) l.length cap] 22)) := (Below.refl _ _).alloc (Nat.le_refl _) _
  refine (sum_any V.heap.size 1 22 _ ad cap l _ (Blk.new V 22 _) rfl h6 hl (fun j u hj => ?_) (Nat.lt_of_lt_of_le had hb.size)).mono ?_
  · rw [List.getElem?_map] at hj
    cases h1 : l[j]? with
    | none => rw [h1] at hj; cases hj
    | some x =>
      rw [h1] at hj
      injection hj with hj
      subst hj
      obtain ⟨hjl, hx⟩ := List.getElem?_eq_some_iff.1 h1
      rw [hb.cell (p := ad.add j) (by rw [show (ad.add j).block = ad.block from add_block ad j]; exact had), hsrc j hjl, hx]
  · rintro e w' ⟨rfl, b⟩
    exact ⟨rfl, hb.trans (b.mono hb.size)⟩
/-- bytes that lay there before lie there still -/
theorem Keep.src {w0 w : World} {d B : Nat} {s : DS} {L : List Var} {ad : Addr} {l : List Int} (h : Keep w0 w d B s L) (had : ad.block < w0.heap.size) (hsrc : ∀ j, (hj : j < l.length) → w0.cell? (ad.add j) = some (.int .u8 l[j])) : ∀ j, (hj : j < l.length) → w.cell? (ad.add j) = some (.int .u8 l[j]) := fun j hj => by
  rw [h.below.cell (p := ad.add j) (by rw [show (ad.add j).block = ad.block from add_block ad j]; exact had)]
  exact hsrc j hj
theorem src_drop {w : World} {ad : Addr} {l : List Int} (k : Nat) (hsrc : ∀ j, (hj : j < l.length) → w.cell? (ad.add j) = some (.int .u8 l[j])) : ∀ j, (hj : j < (l.drop k).length) → w.cell? ((ad.add k).add j) = some (.int .u8 (l.drop k)[j]) := fun j hj => by
  rw [Addr.add_add, List.getElem_drop]
  exact hsrc (k + j) (by simp at hj; omega)
theorem src_take {w : World} {ad : Addr} {l : List Int} (k : Nat) (hsrc : ∀ j, (hj : j < l.length) → w.cell? (ad.add j) = some (.int .u8 l[j])) : ∀ j, (hj : j < (l.take k).length) → w.cell? (ad.add j) = some (.int .u8 (l.take k)[j]) := fun j hj => by
  rw [List.getElem_take]
  exact hsrc j (by simp at hj; omega)
theorem src_map {w : World} {ad : Addr} {l : List Int} (hsrc : ∀ j, (hj : j < l.length) → w.cell? (ad.add j) = some (.int .u8 l[j])) : ∀ j u, (l.map (Value.int .u8))[j]? = some u → w.cell? (ad.add j) = some u := fun j u hj => by
  rw [List.getElem?_map] at hj
  cases h1 : l[j]? with
  | none => rw [h1] at hj; cases hj
  | some x =>
    rw [h1] at hj
    injection hj with hj
    subst hj
    obtain ⟨hjl, hx⟩ := List.getElem?_eq_some_iff.1 h1
    rw [hsrc j hjl, hx]
theorem own_blk {w : World} {base n : Nat} {v : Value} {xs : List Value} (h : w.ownsRow base 5 1 v n xs) (hn : 0 < n) : ∃ g cap cur, v = .slice (some ⟨g, 0, none⟩) n cap ∧ base ≤ g ∧ Blk w g 5 cur ∧ n ≤ cap ∧ cur.size = cap ∧ cur.toList.take n = xs := by
  rcases h.2 with ⟨_, h1⟩ | ⟨g, cap, cur, h1, h2, h3, h4, h5, h6, h7⟩
  · omega
  · exact ⟨g, cap, cur, h1, h2, h3, h4, by rw [h6, Nat.mul_one], by rw [← h7, Nat.mul_one]⟩
theorem below_grown {w w1 : World} {o : Obj} (hg : (w.alloc o).grownBy w1 (some w.heap.size)) : Below w.heap.size w w1 :=
  (((Kept.refl w (fun _ => False)).alloc o).grown hg (fun k e => .inr (by injection e with e; omega))).toBelow
def bootW (ar n : Nat) (l : List Int) : BT := ⟨ar, 5, n, shaF l⟩
theorem bootW_wf (ar n : Nat) (l : List Int) (h : ar < 2) (hn : n ≤ 600) : (bootW ar n l).wf := ⟨by show _ ≤ (ar : Int); omega, by show (ar : Int) ≤ _; omega, by show _ ≤ (5 : Int); omega, by show (5 : Int) ≤ _; omega, by show _ ≤ (n : Int); omega, by show (n : Int) ≤ _; omega, len_shaF l, byt_shaF l⟩
theorem bootW_may (ar n : Nat) (l : List Int) (h : ar < 2) (hn : n ≤ 600) (h0 : 0 < n) : (bootW ar n l).may := ⟨by show (ar : Int) = 0 ∨ (ar : Int) = 1; omega, by show (0 : Int) ≤ 5; omega, by show (5 : Int) ≤ _; omega, by show (0 : Int) < n; omega, by show (n : Int) ≤ _; omega⟩

set_option maxRecDepth 100000 in
set_option maxHeartbeats 4000000 in
theorem wholes_pp (ad : Addr) (l : List Int) (n cap c m t k q ar fr : Nat) (w : World) (hn : l.length = n) (h0 : 0 < n) (h6 : n ≤ 600) (hcap : n ≤ cap) (had : ad.block < w.heap.size) (hl : Byt l) (hsrc : ∀ j, (hj : j < l.length) → w.cell? (ad.add j) = some (.int .u8 l[j]))
    (hc : (c : Int) ≤ 9223372036854775807) (_ht : (t : Int) ≤ 9223372036854775807) (hm : m ≤ 255) (R1 : (c : Int) % ((n : Int) + 1) = (k : Int)) (R2 : (m : Int) % 2 = (ar : Int)) (R3 : 2 + 10 * (ar : Int) = (fr : Int)) (R4 : (t : Int) % (n : Int) = (q : Int)) (hk : k ≤ n) (hq : q < n) (har : ar < 2) (hfr : fr = 2 ∨ fr = 12) :
    Calls Try.prog 3 #[.slice (some ad) n cap, .int .i64 (c : Int), .int .u8 (m : Int), .int .i64 (t : Int)] w fun e w' => e = .returned (.bool true) ∧ Below w.heap.size w w' := by
  have SRC := Lib.hid hsrc
  have HL := Lib.hid hl
  have HN := Lib.hid hn
  have hLS := len_shaF l
  have LS := Lib.hid hLS
  have HFR := Lib.hid hfr
  have WF := Lib.hid (bootW_wf ar n l har h6)
  have MAY := Lib.hid (bootW_may ar n l har h6 h0)
  have L1 := Lib.hid (show (l.drop k).length = n - k by rw [List.length_drop, hn])
  have L2 := Lib.hid (show (l.take k).length = k by rw [List.length_take, hn]; omega)
  obtain ⟨pa, hpa⟩ : ∃ pa : Option Addr, pa = if cap = k then some ad else some (ad.add k) := ⟨_, rfl⟩
  have PA := Lib.hid hpa
  have PA2 := Lib.hid (show l.drop k ≠ [] → pa = some (ad.add k) from fun hne => by
    rw [hpa, if_neg]
    intro e
    exact hne (by rw [List.drop_of_length_le]; omega))
  have LE := Lib.hid hsrc
  have B0 : ((n : Int) == 0) = false := by simp; omega
  have B6 : decide ((600 : Int) < (n : Int)) = false := by simp; omega
  clear hsrc hl hn hpa LE hfr
  obtain ⟨i0, hi0, hz0, hz1, hz2⟩ := info_parts info5
  go_enter Try.func3, Try.ntmps3
  go_wp2_with (first
    | (go_at_call 8; refine (awake_any w).mono ?_; rintro e w1 ⟨rfl, b1⟩; have C1 := Lib.hid b1; clear b1)
    | (go_at_call 9; refine (new_At 22 w1 (by omega)).mono ?_; rintro e w2 ⟨d, rfl, a2, b2⟩
       have K2 := Lib.hid (show Keep w w2 d w1.heap.size (newS 22) [] from ⟨Below.on C1.out b2, C1.out.size, b2.size, a2, fun q hq => by cases hq⟩); clear a2 b2)
    | (go_at_call 10; have cc := sum_slice w2 ad l n cap HN.out (by omega) HL.out (Nat.lt_of_lt_of_le had K2.out.below.size) (K2.out.src had SRC.out); (with_reducible refine cc.mono ?_); clear cc; rintro e w3 ⟨rfl, b3⟩; have K3 := Lib.hid (K2.out.call b3); clear b3)
    | (rw [built_32 (ar : Int) 5 (n : Int) (shaF l) LS.out, show (⟨(ar : Int), 5, (n : Int), shaF l⟩ : BT) = bootW ar n l from rfl]; refine wpList_new rfl 31 rfl _ run_zero31 w3.heap.size rfl ?_; intro w4 g0 hs4 hb4; have G4 := Lib.hid (show Blk w4 w3.heap.size 31 BT.zero.cells from g0); have B4 := Lib.hid hb4; clear g0 hb4)
    | (refine wpList_store_blk rfl 31 _ _ rfl w3.heap.size 31 _ (bootW ar n l).cells rfl rfl G4.out (size_B0 _ WF.out) (size_B31 _ WF.out) (one_BT _) ?_; intro w5 g5 ho5; have K5 := Lib.hid (K3.out.var (Below.refl _ _) B4.out ho5 g5 (by decide) (by decide) (by decide)); clear g5 ho5)
    | (refine wpList_from22 rfl _ _ rfl ad n cap k rfl rfl hk pa PA.out ?_)
    | (refine wpList_upto22 rfl _ _ rfl ad n cap k rfl rfl (Nat.le_trans hk hcap) ?_)
    | (go_at_call 11; have cc : Calls Try.prog 11 #[.pointer (some ⟨d, 0, none⟩), .int .i64 (fr : Int), .int .i64 10, .int .i64 (k : Int), .slice pa (n - k) (cap - k)] w5 fun e w' => e = .returned (.int .i64 0) ∧ ∃ s', At w' d w1.heap.size s' ∧ Laid (newS 22) s' (64 * fr + k) (l.drop k) ∧ Turn w1.heap.size w5 w' :=
         put_len d w1.heap.size (newS 22) fr 10 k (n - k) pa (ad.add k) (cap - k) (l.drop k) w5 L1.out K5.out.at_ K5.out.base rfl (by omega) (by show fr + 10 ≤ 22; have := HFR.out; omega) (by omega) (HL.out.drop k) (src_drop k (K5.out.src had SRC.out)) (fun hne => ⟨PA2.out hne, by rw [show (ad.add k).block = ad.block from add_block ad k]; exact Nat.lt_of_lt_of_le had K5.out.low⟩)
       (with_reducible refine cc.mono ?_); clear cc; rintro e w6 ⟨rfl, s1, a6, la6, t6⟩; have K6 := Lib.hid (K5.out.turn a6 t6); have LA6 := Lib.hid la6; clear a6 la6 t6)
    | (go_at_call 11; have cc : Calls Try.prog 11 #[.pointer (some ⟨d, 0, none⟩), .int .i64 (fr : Int), .int .i64 10, .int .i64 0, .slice (some ad) k cap] w6 fun e w' => e = .returned (.int .i64 0) ∧ ∃ s', At w' d w1.heap.size s' ∧ Laid s1 s' (64 * fr + 0) (l.take k) ∧ Turn w1.heap.size w6 w' :=
         put_len d w1.heap.size s1 fr 10 0 k (some ad) ad cap (l.take k) w6 L2.out K6.out.at_ K6.out.base LA6.out.down (by omega) (by have h22 : s1.n = 22 := LA6.out.n; have := HFR.out; omega) (by omega) (HL.out.take k) (src_take k (K6.out.src had SRC.out)) (fun hne => ⟨rfl, Nat.lt_of_lt_of_le had K6.out.low⟩)
       (with_reducible refine cc.mono ?_); clear cc; rintro e w7 ⟨rfl, s2, a7, la7, t7⟩
       have K7 := Lib.hid (K6.out.turn a7 t7)
       have I7 := Lib.hid (image_s2 HFR.out (by rw [HN.out]; exact h6) (by rw [HN.out]; exact hk) LA6.out la7)
       have P7 := Lib.hid (best_s2 a7 I7.out.1 I7.out.2)
       have I8 := Lib.hid (F3_image a7 I7.out.1 HFR.out (by rw [HN.out]; exact h6) WF.out); clear a7 la7 t7)
    | (refine wpList_load_row rfl 31 _ rfl w3.heap.size rfl 31 (bootW ar n l).cells (0, 0) _ K7.out.v0 Try.underlying31 rfl (size_B31 _ WF.out) ?_)
    | (go_at_call 12; have cc := point_yes d w1.heap.size s2 0 (bootW ar n l) 0 w7 K7.out.at_ K7.out.base I7.out.1.down (by omega) (by rw [I7.out.1.n]; show (2 : Int) ≤ 22; omega) WF.out MAY.out (by rw [P7.out]) (by omega); (with_reducible refine cc.mono ?_); clear cc; rintro e w8 ⟨rfl, a8, t8⟩
       have K8 := Lib.hid (show Keep w w8 d w1.heap.size (F3 s2 (bootW ar n l)) [(w3.heap.size, 31, (bootW ar n l).cells)] from K7.out.turn a8 t8); clear a8 t8)
    | (refine wpList_load_row rfl 31 _ rfl w3.heap.size rfl 31 (bootW ar n l).cells (0, 0) _ K8.out.v0 Try.underlying31 rfl (size_B31 _ WF.out) ?_)
    | (go_at_call 13; have cc : Calls Try.prog 13 #[.pointer (some ⟨d, 0, none⟩), .int .i64 (fr : Int), .int .i64 10, .agg (bootW ar n l).cells] w8 fun e w' => e = .returned (.int .i64 0) ∧ Below w8.heap.size w8 w' := (by
         have := whole_At d w1.heap.size (F3 s2 (bootW ar n l)) fr 10 n (bootW ar n l) w8 K8.out.at_ I8.out.1.down (by rw [I8.out.1.n]; have := HFR.out; omega) (by omega) h0 rfl (len_shaF l)
         have e2 : wholeE (F3 s2 (bootW ar n l)) fr (bootW ar n l) n = 0 := by
           have := whole_image (bt := bootW ar n l) I8.out.1
           rw [HN.out] at this
           rw [this]
           exact if_pos rfl
         rw [e2] at this
         exact this)
       (with_reducible refine cc.mono ?_); clear cc; rintro e w9 ⟨rfl, b9⟩; have K9 := Lib.hid (K8.out.call b9); clear b9))
  obtain ⟨x, hx⟩ : ∃ x, l[q]? = some x := ⟨l[q]'(by rw [HN.out]; exact hq), List.getElem?_eq_getElem _⟩
  have X := Lib.hid hx
  have hxq : w9.drew.cell? (ad.add q) = some (.int .u8 x) := by
    have hlt : q < l.length := by rw [HN.out]; exact hq
    have h1 := K9.out.src had SRC.out q hlt
    rw [List.getElem?_eq_getElem hlt] at hx
    injection hx with hx
    rw [hx] at h1
    exact h1
  obtain ⟨y, hy⟩ : ∃ y, y = bits .xor .u8 x 1 := ⟨_, rfl⟩
  have Y := Lib.hid hy
  have HY := hy.symm
  have hn0 : ¬ n = 0 := by omega
  have T4 : (t : Int).tmod (n : Int) = (q : Int) := by rw [Int.tmod_eq_emod_of_nonneg (by omega)]; exact R4
  have hqn : (q : Int) < (n : Int) := by omega
  clear hx hy
  have YB := Lib.hid (show 0 ≤ y ∧ y ≤ 255 from by
    have hlt : q < l.length := by rw [HN.out]; exact hq
    have hb := X.out
    rw [List.getElem?_eq_getElem hlt] at hb
    injection hb with hb
    have := xor_some l q hlt HL.out 1 (by omega) (by omega)
    rw [hb, HY] at this
    exact ⟨this.1, this.2.1⟩)
  have HYH := Lib.hid HY
  go_region_law (first
    | ((go_simp; go_at_call 11; have cc : Calls Try.prog 11 #[.pointer (some ⟨d, 0, none⟩), .int .i64 (fr : Int), .int .i64 10, .int .i64 (q : Int), .slice (some ⟨w9.heap.size, 0, none⟩) 1 1] (w9.alloc (.cells #[.int .u8 y] 5)).drew fun e w' => e = .returned (.int .i64 0) ∧ ∃ s', At w' d w1.heap.size s' ∧ Laid (F3 s2 (bootW ar n l)) s' (64 * fr + q) [y] ∧ Turn w1.heap.size w9 w' :=
         put_new d w1.heap.size (F3 s2 (bootW ar n l)) fr 10 q 1 [y] w9 _ w9.heap.size K9.out.at_ K9.out.base (((Below.refl _ _).alloc (Nat.le_refl _) _).drew) ⟨Nat.le_refl _, by show _ < (w9.alloc _).heap.size; rw [World.size_alloc]; exact Nat.lt_succ_self _⟩ I8.out.1.down (Nat.le_refl 1) (by rw [I8.out.1.n]; have := HFR.out; omega) (by show q + 1 ≤ 640; omega) (fun z hz => by rw [List.mem_singleton.1 hz]; exact YB.out) (fun j hj => by
           have hj0 : j = 0 := Nat.lt_one_iff.1 hj
           subst hj0
           exact cell_one_new w9 (.int .u8 y) 5 0 _ rfl)
        (with_reducible refine cc.mono ?_); clear cc; rintro e w10 ⟨rfl, s4, a10, la10, t10⟩)))
  have K10 := Lib.hid (K9.out.turn a10 t10)
  have I10 := Lib.hid (image_s4 (bt := bootW ar n l) I8.out.1 I8.out.2 HFR.out (by rw [HN.out]; exact h6) (by rw [HN.out]; exact hq) la10 (K9.out.at_.blk_ok 0 (by omega) (by rw [I8.out.1.n]; omega)).1 (a10.blk_ok 0 (by omega) (by rw [la10.n, I8.out.1.n]; omega)).1)
  have P10 := Lib.hid (best_of_image a10 I10.out.1 I10.out.2 WF.out MAY.out)
  have T4H := Lib.hid T4
  clear a10 la10 t10 HY T4
  go_wp2_with (first
    | (go_at_call 14; have cc := start_good d w1.heap.size s4 0 (bootW ar n l) 1 w10 K10.out.at_ I10.out.1.down (by omega) (by rw [I10.out.1.n]; show (2 : Int) ≤ 22; omega) P10.out (by omega); (with_reducible refine cc.mono ?_); clear cc; rintro e w11 ⟨rfl, b11⟩; have B11 := Lib.hid b11; clear b11)
    | (refine wpList_new rfl 31 rfl _ run_zero31 w11.heap.size rfl ?_; intro w12 g0 hs12 hb12; have G12 := Lib.hid (show Blk w12 w11.heap.size 31 BT.zero.cells from g0); have B12 := Lib.hid hb12; clear g0 hb12)
    | (refine wpList_store_blk rfl 31 _ _ rfl w11.heap.size 31 _ (bootW ar n l).cells rfl rfl G12.out (size_B0 _ WF.out) (size_B31 _ WF.out) (one_BT _) ?_; intro w13 g13 ho13; have K13 := Lib.hid (K10.out.var B11.out B12.out ho13 g13 (by decide) (by decide) (by decide)); clear g13 ho13)
    | (at_builtin; refine wpList_append_own _ rfl _ _ 22 rfl w13.heap.size 5 i0 (.int .u8 0) 1 1 Try.underlying22 hi0 hz0 hz1 hz2 rfl (by decide) _ 0 [] rfl (World.ownsRow_lit w13 #[] 0 (Nat.le_refl _) (Nat.zero_le _) rfl) ad n cap (l.map (Value.int .u8)) rfl (by rw [List.length_map, HN.out, Nat.mul_one]) (src_map ((K13.out.call ((Below.refl _ _).alloc (Nat.le_refl _) _)).src had SRC.out)) (one_map l) (by unfold maxLen; omega) (by omega) (by rw [World.size_alloc]; omega) ?_
       intro v' w15 own15 grow15 _
       simp only [Nat.zero_add, List.nil_append] at own15
       obtain ⟨g, cp, cur, rfl, hg0, hgb, hgc, hgs, hgt⟩ := own_blk own15 (by omega)
       have GB := Lib.hid hgb
       have GS := Lib.hid hgs
       have GT := Lib.hid hgt
       have GL := Lib.hid hg0
       have B15 := Lib.hid (below_grown grow15)
       clear own15 grow15 hgb hgs hgt hg0))
  have T4 := T4H.out
  have HY := HYH.out
  have cq : cur[q]? = some (.int .u8 x) := by
    rw [← Array.getElem?_toList]
    have h1 : (cur.toList.take n)[q]? = some (.int .u8 x) := by rw [GT.out, List.getElem?_map, X.out]; rfl
    rw [List.getElem?_take, if_pos hq] at h1
    exact h1
  have CQ := Lib.hid cq
  have cY : w15.drew.cell? ⟨g, q, none⟩ = some (.int .u8 x) := by rw [GB.out.drew.cell]; exact cq
  clear cq
  refine wp_region_still_tail 14 (by kernel_rfl) (by kernel_rfl) ?_
  change wpStill _ _ w15.drew _ _ _
  simp only [List.take_succ_cons, List.take_zero, List.drop_succ_cons, List.drop_zero]
  repeat still_step
  refine wpStill_nil ?_
  clear cY T4 HY
  go_wp2_with (first
    | (refine wpList_store_cell rfl 5 _ _ rfl g q 5 cur (.int .u8 y) rfl rfl GB.out.drew (by rw [GS.out]; omega) size1_5 rfl rfl ?_; intro w16 g16 ho16; have G16 := Lib.hid g16; have O16 := Lib.hid ho16; clear g16 ho16))
  have GB2 := Lib.hid (show g < w16.heap.size from G16.out.lt)
  have B16 := Lib.hid (show Below w13.heap.size w13 w16 from (Only.kept (F := fun _ => False) (Kept.below B15.out).drew O16.out (.inr GL.out)).toBelow)
  have K16 := Lib.hid (K13.out.call B16.out)
  obtain ⟨lc, hlc⟩ : ∃ lc, lc = l.set q y := ⟨_, rfl⟩
  have LCL := Lib.hid (show lc.length = n by rw [hlc, List.length_set]; exact HN.out)
  have LCB := Lib.hid (show Byt lc by rw [hlc]; exact byt_set HL.out q y YB.out)
  have CC := Lib.hid (show ∀ j, (hj : j < lc.length) → w16.cell? ((⟨g, 0, none⟩ : Addr).add j) = some (.int .u8 lc[j]) from fun j hj => by
    rw [add_at, Nat.zero_add, G16.out.cell, Array.getElem?_setIfInBounds]
    have hjn : j < n := by rw [← LCL.out]; exact hj
    have hjl : j < l.length := by rw [HN.out]; exact hjn
    subst hlc
    rw [List.getElem_set]
    by_cases hqj : q = j
    · subst hqj
      rw [if_pos rfl, if_pos rfl, if_pos (by rw [GS.out]; omega)]
    · rw [if_neg hqj, if_neg hqj, ← Array.getElem?_toList]
      have h1 : (cur.toList.take n)[j]? = some (.int .u8 l[j]) := by rw [GT.out, List.getElem?_map, List.getElem?_eq_getElem hjl]; rfl
      rw [List.getElem?_take, if_pos hjn] at h1
      exact h1)
  have HLC := Lib.hid hlc
  obtain ⟨X, hX⟩ : ∃ X : List Value, X = (shaF l).map (Value.int .u8) := ⟨_, rfl⟩
  have XT := Lib.hid (show X.toArray = U8 (shaF l) by rw [hX]; rfl)
  have hXl : X.length = 32 := by rw [hX]; simpa using hLS
  have hXi := Lib.hid (show (Try.prog.info? 28).map (·.size) = some X.length by rw [hXl]; exact size28)
  have RX := Lib.hid (show ∀ V, Below w16.heap.size w16 V → V.rangeAt w3.heap.size 3 X from fun V hV => by
    rw [hX]; exact range_BT (bootW ar n l) ((hV.block _ (K16.out.v1.lt)).trans K16.out.v1))
  obtain ⟨sb, hsb⟩ : ∃ sb : Bool, sb = decide (shaF lc = shaF l) := ⟨_, rfl⟩
  have SB := Lib.hid hsb
  clear hlc hX hXl hsb hLS
  go_frame
  refine wp_region_vals (by kernel_rfl) (by kernel_rfl) (by kernel_rfl) (by kernel_rfl) [some 130, some 131, some 132, some 133, some 134, some 135, some 24] rfl
    (fun i => match i with
      | 0 => .slice (some ⟨g, 0, none⟩) n cp
      | 1 => .slice (some ⟨w16.heap.size, 0, none⟩) 1 1
      | 2 => .agg (U8 (shaF lc))
      | 3 => .pointer (some ⟨w3.heap.size, 3, none⟩)
      | 4 => .agg X.toArray
      | _ => .bool sb)
    (fun L w' => (L 2 = false → w' = bif L 1 then w16.drew.alloc (.cells #[.slice (some ⟨g, 0, none⟩) n cp] 22) else w16.drew) ∧ (L 2 = true → L 1 = true ∧ Below w16.heap.size w16 w'))
    ⟨fun _ => rfl, fun h => by cases h⟩ ?_ ?_
  · intro i o ho L a w' hH hL hJ hLi hdep
    obtain ⟨hV, hW⟩ := hJ
    match i, ho with
    | 0, ho =>
      simp at ho
      subst ho
      exact op_move _ rfl _ (hH.old 23 (by decide) hL) ⟨rfl, by simpa [setL] using hV, by simpa [setL] using hW⟩
    | 1, ho =>
      simp at ho
      subst ho
      have d0 : L 0 = true := hdep ⟨0, .data⟩ (by simp) rfl
      have hl2 : L 2 = false := by
        cases h2 : L 2 with
        | false => rfl
        | true => have := (hW h2).1; rw [hLi] at this; cases this
      have hw := hV hl2
      rw [hLi] at hw
      subst hw
      refine op_build1 79 _ rfl (.slice (some ⟨g, 0, none⟩) n cp) (.slice (some ⟨w16.heap.size, 0, none⟩) 1 1) (w16.drew.alloc (.cells #[.slice (some ⟨g, 0, none⟩) n cp] 22)) (hH.new 0 130 d0 rfl (by show 130 < 176; omega)) (by kernel_rfl) ⟨rfl, fun _ => by simp [setL], fun h => by simp [setL, hl2] at h⟩
    | 2, ho =>
      simp at ho
      subst ho
      have d1 : L 1 = true := hdep ⟨1, .data⟩ (by simp) rfl
      have hw := hV hLi
      rw [d1] at hw
      subst hw
      refine op_call1 Try.func10 (by decide) rfl _ _ rfl _ (hH.new 1 131 d1 rfl (by show 131 < 176; omega)) _ (sum_slice w16.drew ⟨g, 0, none⟩ lc n cp LCL.out (by omega) LCB.out GB2.out CC.out) ?_
      rintro e w17 ⟨rfl, b17⟩
      exact ⟨_, rfl, rfl, fun h => by simp [setL] at h, fun _ => ⟨by simp [setL, d1], ((Below.refl w16.heap.size w16).drew).trans b17⟩⟩
    | 3, ho =>
      simp at ho
      subst ho
      refine op_field 31 3 _ rfl (.pointer (some ⟨w3.heap.size, 0, none⟩)) _ (hH.old 14 (by decide) hL) (by kernel_rfl) ⟨rfl, by simpa [setL] using hV, by simpa [setL] using hW⟩
    | 4, ho =>
      simp at ho
      subst ho
      have d3 : L 3 = true := hdep ⟨3, .data⟩ (by simp) rfl
      have hR : w'.rangeAt w3.heap.size 3 X := by
        cases h2 : L 2 with
        | true => exact RX.out _ (hW h2).2
        | false =>
          rw [hV h2]
          cases L 1 with
          | true => exact RX.out _ (((Below.refl _ _).drew).alloc (Nat.le_refl _) _)
          | false => exact RX.out _ ((Below.refl _ _).drew)
      refine wp_load_mid 28 _ rfl w3.heap.size 3 (hH.new 3 133 d3 rfl (by show 133 < 176; omega)) X _ hR Try.underlying28 rfl hXi.out ⟨rfl, by simpa [setL] using hV, by simpa [setL] using hW⟩
    | 5, ho =>
      simp at ho
      subst ho
      have d2 : L 2 = true := hdep ⟨2, .data⟩ (by simp) rfl
      have d4 : L 4 = true := hdep ⟨4, .data⟩ (by simp) rfl
      refine op_bin .eql 28 28 _ _ rfl (.agg (U8 (shaF lc))) (.agg X.toArray) (hH.new 2 132 d2 rfl (by show 132 < 176; omega)) (hH.new 4 134 d4 rfl (by show 134 < 176; omega)) (.bool sb) (run_eqGuard_agg _ _ _ _ _ _ _ Try.eqGuardType28) ?_ ⟨rfl, by simpa [setL] using hV, by simpa [setL] using hW⟩
      rw [XT.out, SB.out]
      exact run_eql_sums _ _ (len_shaF _) (len_shaF _) _
    | 6, ho =>
      simp at ho
      subst ho
      have d5 : L 5 = true := hdep ⟨5, .data⟩ (by simp) rfl
      exact op_assign _ rfl _ (hH.new 5 135 d5 rfl (by show 135 < 176; omega)) ⟨rfl, by simpa [setL] using hV, by simpa [setL] using hW⟩
    | i + 7, ho => simp at ho
  · rintro w17 L hall ⟨_, hW⟩
    have B17 := Lib.hid (hW (hall 2 (by decide))).2
    clear hW hall
    have K17 := Lib.hid (K16.out.call B17.out)
    have hwe : ∃ wE : Int, wE = (if shaF lc = shaF l then 0 else 80) ∧ (wE == 0) = sb := ⟨_, rfl, by rw [SB.out]; split <;> simp_all⟩
    obtain ⟨wE, hwe1, hwe2⟩ := hwe
    have I17 := I10.out
    rw [← HLC.out] at I17
    have I17H := Lib.hid I17
    have WEQ := Lib.hid (show wholeE s4 fr (bootW ar n l) n = wE by
      have := whole_image (bt := bootW ar n l) I17.1
      rw [LCL.out] at this
      rw [this, hwe1]
      rfl)
    clear I17 hwe1
    simp only [putAll, Nat.zero_add, Nat.reduceAdd]
    go_frame
    go_wp2_with (first
      | (refine wpList_load_row_w rfl 31 _ rfl w3.heap.size rfl 31 (bootW ar n l).cells (0, 0) _ K17.out.v1 Try.underlying31 rfl (size_B31 _ WF.out) ?_)
      | (go_at_call 13; have cc : Calls Try.prog 13 #[.pointer (some ⟨d, 0, none⟩), .int .i64 (fr : Int), .int .i64 10, .agg (bootW ar n l).cells] w17 fun e w' => e = .returned (.int .i64 wE) ∧ Below w17.heap.size w17 w' := (by
           have := whole_At d w1.heap.size s4 fr 10 n (bootW ar n l) w17 K17.out.at_ I17H.out.1.down (by rw [I17H.out.1.n]; have := HFR.out; omega) (by omega) h0 rfl (len_shaF l)
           rw [WEQ.out] at this
           exact this)
         (with_reducible refine cc.mono ?_); clear cc; rintro e w18 ⟨rfl, b18⟩; have K18 := Lib.hid (K17.out.call b18); clear b18)
      | (refine wpList_load_row_w rfl 31 _ rfl w11.heap.size rfl 31 (bootW ar n l).cells (0, 0) _ K18.out.v0 Try.underlying31 rfl (size_B31 _ WF.out) ?_)
      | (refine wpList_load_row_w rfl 31 _ rfl w3.heap.size rfl 31 (bootW ar n l).cells (0, 0) _ K18.out.v1 Try.underlying31 rfl (size_B31 _ WF.out) ?_)
      | (refine wpList_bin_w rfl .eql 31 31 _ _ rfl (.agg (bootW ar n l).cells) (.agg (bootW ar n l).cells) rfl rfl (.bool true) (guard31 _ _ _ _ _ _) (eql_same _ WF.out w18) ?_))
    go_ret
    exact ⟨rfl, K18.out.below⟩
end Go.Proofs.Ytfodboooopkheaa
