/- sha: one block. -/
import Derived.Test.YtfodboooopkheaaSha
namespace Go.Proofs.Ytfodboooopkheaa
open Go.RowKit

theorem still_of {P : Program} {f : FuncId} {args : Array Value} {w : World} {v : Value} (h : Calls P f args w fun e w' => e = .returned v ∧ w = w') : Calls P f args w fun e w'' => e = .returned v ∧ w'' = w :=
  h.mono fun _ _ h => ⟨h.1, h.2.symm⟩
def U32 (l : List Int) : Array Value := (l.map (Value.int .u32)).toArray
@[simp] theorem size_U32 (l : List Int) : (U32 l).size = l.length := by simp [U32]
theorem get_U32_lt (l : List Int) (i : Nat) (h : i < l.length) : (U32 l)[i]? = some (.int .u32 l[i]) := by simp [U32, h]
theorem one_U32 (l : List Int) : ∀ v ∈ (U32 l).toList, v.oneCell' = true := by
  intro v hv
  simp only [U32, List.mem_map] at hv
  obtain ⟨x, _, rfl⟩ := hv
  rfl
theorem set_U32 (L : List Int) (i : Nat) (x : Int) : (U32 L).setIfInBounds i (.int .u32 x) = U32 (L.set i x) := by
  unfold U32
  rw [List.map_set]
  simp
def Z64w : List Int := List.replicate 64 0
def Z8w : List Int := List.replicate 8 0
theorem run_zero83 (w : World) : (zeroValue 83).run Try.prog w = .ok (.agg (U32 Z64w)) w := by kernel_rfl
theorem run_zero86 (w : World) : (zeroValue 86).run Try.prog w = .ok (.agg (U32 Z8w)) w := by kernel_rfl
theorem size1_82 : (Try.prog.info? 82).map (·.size) = some 1 := by kernel_rfl
theorem size83 : (Try.prog.info? 83).map (·.size) = some 64 := by kernel_rfl
theorem size86 : (Try.prog.info? 86).map (·.size) = some 8 := by kernel_rfl
/-- a big-endian word of a block -/
def wordB (B : List Int) (t : Nat) : Int :=
  bits .or .u32 (bits .or .u32 (bits .or .u32 (B.getD (4 * t) 0 * 16777216) (B.getD (4 * t + 1) 0 * 65536)) (B.getD (4 * t + 2) 0 * 256)) (B.getD (4 * t + 3) 0)
def W1 (B : List Int) : Nat → List Int
  | 0 => Z64w
  | t + 1 => (W1 B t).set t (wordB B t)
theorem len_W1 (B : List Int) : ∀ t, (W1 B t).length = 64
  | 0 => rfl
  | t + 1 => by simp [W1, len_W1 B t]
/-- a later word of the schedule -/
def sched (L : List Int) (t : Nat) : Int :=
  IntKind.u32.wrap (IntKind.u32.wrap (IntKind.u32.wrap (bits .xor .u32 (bits .xor .u32 (rr 32768 131072 (L.getD (t - 2) 0)) (rr 8192 524288 (L.getD (t - 2) 0))) (L.getD (t - 2) 0 / 1024) + L.getD (t - 7) 0)
    + bits .xor .u32 (bits .xor .u32 (rr 33554432 128 (L.getD (t - 15) 0)) (rr 16384 262144 (L.getD (t - 15) 0))) (L.getD (t - 15) 0 / 8)) + L.getD (t - 16) 0)
def W2 (B : List Int) : Nat → List Int
  | 0 => W1 B 16
  | j + 1 => (W2 B j).set (16 + j) (sched (W2 B j) (16 + j))
theorem len_W2 (B : List Int) : ∀ j, (W2 B j).length = 64
  | 0 => len_W1 B 16
  | j + 1 => by simp [W2, len_W2 B j]
theorem w32_zero : W32 0 := ⟨by decide, by decide⟩
theorem w32_getD {L : List Int} (h : ∀ x ∈ L, W32 x) (i : Nat) : W32 (L.getD i 0) := by
  rw [List.getD_eq_getElem?_getD]
  cases hi : L[i]? with
  | none => exact w32_zero
  | some x => exact h x (List.mem_of_getElem? hi)
theorem w32_W1 (B : List Int) : ∀ t, ∀ x ∈ W1 B t, W32 x
  | 0, x, h => by rw [List.eq_of_mem_replicate h]; exact w32_zero
  | t + 1, x, h => by
    rcases List.mem_or_eq_of_mem_set h with h | h
    · exact w32_W1 B t x h
    · rw [h]; exact w32_or _ _
theorem w32_W2 (B : List Int) : ∀ t, ∀ x ∈ W2 B t, W32 x
  | 0, x, h => w32_W1 B 16 x h
  | t + 1, x, h => by
    rcases List.mem_or_eq_of_mem_set h with h | h
    · exact w32_W2 B t x h
    · rw [h]; exact w32_wrap _
theorem Blk.at32 {w : World} {g : Nat} {t : TypeId} {L : List Int} (h : Blk w g t (U32 L)) (i : Nat) (hi : i < L.length) : w.cell? ⟨g, i, none⟩ = some (.int .u32 (L.getD i 0)) := by
  rw [h.cell, get_U32_lt _ _ hi, List.getD_eq_getElem?_getD, List.getElem?_eq_getElem hi]
  rfl
/-- the eight words that a block's rounds turn -/
structure RS where
  a : Int
  c : Int
  d : Int
  e : Int
  f : Int
  g : Int
  h : Int
  i : Int
def RS.w32 (r : RS) : Prop := W32 r.a ∧ W32 r.c ∧ W32 r.d ∧ W32 r.e ∧ W32 r.f ∧ W32 r.g ∧ W32 r.h ∧ W32 r.i
def rt1 (r : RS) (k l : Int) : Int :=
  IntKind.u32.wrap (IntKind.u32.wrap (IntKind.u32.wrap (IntKind.u32.wrap (r.i + bits .xor .u32 (bits .xor .u32 (rr 67108864 64 r.f) (rr 2097152 2048 r.f)) (rr 128 33554432 r.f))
    + bits .xor .u32 (bits .and .u32 r.f r.g) (bits .and .u32 (bits .xor .u32 (if IntKind.u32.signed = true then -1 else IntKind.u32.max) r.f) r.h)) + k) + l)
def rt2 (r : RS) : Int :=
  (bits .xor .u32 (bits .xor .u32 (rr 1073741824 4 r.a) (rr 524288 8192 r.a)) (rr 1024 4194304 r.a) + bits .xor .u32 (bits .xor .u32 (bits .and .u32 r.a r.c) (bits .and .u32 r.a r.d)) (bits .and .u32 r.c r.d)) % 4294967296
def RS.next (r : RS) (k l : Int) : RS := ⟨(rt1 r k l + rt2 r) % 4294967296, r.a, r.c, r.d, (r.e + rt1 r k l) % 4294967296, r.f, r.g, r.h⟩
def RS.of (S : List Int) : RS := ⟨S.getD 0 0, S.getD 1 0, S.getD 2 0, S.getD 3 0, S.getD 4 0, S.getD 5 0, S.getD 6 0, S.getD 7 0⟩
def rounds (S K L : List Int) : Nat → RS
  | 0 => RS.of S
  | t + 1 => (rounds S K L t).next (K.getD t 0) (L.getD t 0)
theorem rounds_w32 (S K L : List Int) (h : ∀ x ∈ S, W32 x) : ∀ t, (rounds S K L t).w32
  | 0 => ⟨w32_getD h _, w32_getD h _, w32_getD h _, w32_getD h _, w32_getD h _, w32_getD h _, w32_getD h _, w32_getD h _⟩
  | t + 1 => by
    obtain ⟨h1, h2, h3, h4, h5, h6, h7, h8⟩ := rounds_w32 S K L h t
    exact ⟨w32_mod _, h1, h2, h3, w32_mod _, h5, h6, h7⟩
/-- a state behind one more block -/
def blockF (S B K : List Int) : List Int :=
  let r := rounds S K (W2 B 48) 64
  [(S.getD 0 0 + r.a) % 4294967296, (S.getD 1 0 + r.c) % 4294967296, (S.getD 2 0 + r.d) % 4294967296, (S.getD 3 0 + r.e) % 4294967296, (S.getD 4 0 + r.f) % 4294967296, (S.getD 5 0 + r.g) % 4294967296, (S.getD 6 0 + r.h) % 4294967296, (S.getD 7 0 + r.i) % 4294967296]
theorem results_cell1 {P : Program} {fn : Func} {p : Tmp} {ty : TypeId} (h : fn.results = #[.cell p ty]) (tmps : Array Value) (w : World) (g : Nat) (t : TypeId) (cs : Array Value) (d : TypeDesc)
    (hp : tmps.getD p undef = .pointer (some ⟨g, 0, none⟩)) (hg : Blk w g t cs)
    (hu : P.underlying ty = some d) (hd : (match d with | .struct _ | .array _ _ => true | _ => false) = true) (hi : (P.info? ty).map (·.size) = some cs.size) :
    (results fn tmps).run P w = .ok (.agg cs) w := by
  have hp' : tmps[p]?.getD undef = .pointer (some ⟨g, 0, none⟩) := by simpa using hp
  simp [results, h, hp', asAddr, run_loadVar_row w g t ty cs (0, 0) d hg hu hd hi]
theorem Only.drewN {w w' : World} {g : Nat} (h : Only w w' g) (n : Nat) : Only w (w'.drewN n) g := ⟨h.os, h.tape, h.output, h.size, h.block⟩
theorem Only.drew {w w' : World} {g : Nat} (h : Only w w' g) : Only w w'.drew g := ⟨h.os, h.tape, h.output, h.size, h.block⟩
theorem Only.refl (w : World) (g : Nat) : Only w w g := ⟨rfl, rfl, rfl, rfl, fun _ _ => rfl⟩
theorem Only.trans {w w' w'' : World} {g : Nat} (h : Only w w' g) (h' : Only w' w'' g) : Only w w'' g :=
  ⟨h'.os.trans h.os, h'.tape.trans h.tape, h'.output.trans h.output, h'.size.trans h.size, fun k hk => (h'.block k hk).trans (h.block k hk)⟩

set_option maxRecDepth 100000 in
set_option maxHeartbeats 4000000 in
theorem block_any (S B K : List Int) (gb off len cap gk : Nat) (w : World) (hS : S.length = 8) (hSw : ∀ x ∈ S, W32 x) (hl : 64 ≤ len) (hB : B.length = 64) (hBb : Byt B)
    (hsrc : ∀ i, (h : i < 64) → w.cell? ⟨gb, off + i, none⟩ = some (.int .u8 (B[i]'(by omega)))) (hK : K.length = 64) (hKw : ∀ x ∈ K, W32 x) (hk : Blk w gk 83 (U32 K)) (hgb : gb < w.heap.size) :
    Calls Try.prog 47 #[.agg (U32 S), .slice (some ⟨gb, off, none⟩) len cap, .pointer (some ⟨gk, 0, none⟩)] w fun e w' => e = .returned (.agg (U32 (blockF S B K))) ∧ Below w.heap.size w w' := by
  have HK := Lib.hid hk
  have SRC := Lib.hid hsrc
  clear hk hsrc
  go_enter Try.func47, Try.ntmps47
  go_wp2_with (first
    | (refine wpList_new rfl 86 rfl _ run_zero86 (w.heap.size + 1) (World.size_alloc _ _) ?_; intro w1 g0 hs1 hb1; have G1 := Lib.hid (show Blk w1 (w.heap.size + 1) 86 (U32 Z8w) from g0); have B1 := Lib.hid hb1; clear g0 hb1)
    | (refine wpList_new rfl 83 rfl _ run_zero83 (w.heap.size + 2) hs1 ?_; intro w2 g0 hs2 hb2; have G2 := Lib.hid (show Blk w2 (w.heap.size + 2) 83 (U32 Z64w) from g0); have B2 := Lib.hid hb2; clear g0 hb2))
  have X2 := Lib.hid (show Blk w2 w.heap.size 86 (U32 S) from (B2.out.block _ (by omega)).trans ((B1.out.block _ (Nat.lt_succ_self _)).trans (Blk.new w 86 (U32 S))))
  have B02 := Lib.hid (show Below w.heap.size w w2 from ((Below.refl _ _).alloc (Nat.le_refl _) _).trans ((B1.out.mono (Nat.le_succ _)).trans (B2.out.mono (by omega))))
  have HK2 := Lib.hid (show Blk w2 gk 83 (U32 K) from (B02.out.block _ HK.out.lt).trans HK.out)
  have SRC2 := Lib.hid (show ∀ V, Only w2 V (w.heap.size + 2) → ∀ i, (h : i < 64) → V.cell? ⟨gb, off + i, none⟩ = some (.int .u8 (B[i]'(by omega))) from fun V hV i h => by
    rw [hV.cell (by show gb ≠ _; omega), World.cell?_of_block (w := w) (B02.out.block _ hgb)]
    exact SRC.out i h)
  have BB := Lib.hid hBb
  have SW := Lib.hid hSw
  have KW := Lib.hid hKw
  clear hSw hKw hBb
  have hBl : ∀ i : Nat, i < 64 → i < B.length := by omega
  go_loopw [24] (fun i wr => ∃ k : Nat, k ≤ 16 ∧ i = .int .i64 (k : Int) ∧ Blk wr (w.heap.size + 2) 83 (U32 (W1 B k)) ∧ Only w2 wr (w.heap.size + 2)) (fun i _ => 16 - (intOf i).toNat)
  case atStart => exact ⟨0, Nat.zero_le _, rfl, G2.out, Only.refl _ _⟩
  case round =>
    obtain ⟨k, hk, rfl, hb, ho⟩ := hrel
    by_cases hlt : k < 16
    · have OB := Lib.hid hb
      have OO := Lib.hid ho
      clear hb ho
      obtain ⟨x0, h0⟩ : ∃ x, x = B[4 * k]'(by omega) := ⟨_, rfl⟩
      obtain ⟨x1, h1⟩ : ∃ x, x = B[4 * k + 1]'(by omega) := ⟨_, rfl⟩
      obtain ⟨x2, h2⟩ : ∃ x, x = B[4 * k + 2]'(by omega) := ⟨_, rfl⟩
      obtain ⟨x3, h3⟩ : ∃ x, x = B[4 * k + 3]'(by omega) := ⟨_, rfl⟩
      obtain ⟨q0, hq0⟩ : ∃ q : Nat, q = 4 * k := ⟨_, rfl⟩
      obtain ⟨q1, hq1⟩ : ∃ q : Nat, q = 4 * k + 1 := ⟨_, rfl⟩
      obtain ⟨q2, hq2⟩ : ∃ q : Nat, q = 4 * k + 2 := ⟨_, rfl⟩
      obtain ⟨q3, hq3⟩ : ∃ q : Nat, q = 4 * k + 3 := ⟨_, rfl⟩
      have w0 : IntKind.i64.wrap (4 * (k : Int)) = (q0 : Int) := by rw [IntWalk.i64_in _ (by omega)]; omega
      have w1' : IntKind.i64.wrap ((q0 : Int) + 1) = (q1 : Int) := by rw [IntWalk.i64_in _ (by omega)]; omega
      have w2' : IntKind.i64.wrap ((q0 : Int) + 2) = (q2 : Int) := by rw [IntWalk.i64_in _ (by omega)]; omega
      have w3' : IntKind.i64.wrap ((q0 : Int) + 3) = (q3 : Int) := by rw [IntWalk.i64_in _ (by omega)]; omega
      have l0 : q0 < len := by omega
      have l1 : q1 < len := by omega
      have l2 : q2 < len := by omega
      have l3 : q3 < len := by omega
      have c0 : wr.cell? ⟨gb, off + q0, none⟩ = some (.int .u8 x0) := by subst hq0; rw [h0]; exact SRC2.out wr OO.out _ (by omega)
      have c1 : wr.cell? ⟨gb, off + q1, none⟩ = some (.int .u8 x1) := by subst hq1; rw [h1]; exact SRC2.out wr OO.out _ (by omega)
      have c2 : wr.cell? ⟨gb, off + q2, none⟩ = some (.int .u8 x2) := by subst hq2; rw [h2]; exact SRC2.out wr OO.out _ (by omega)
      have c3 : wr.cell? ⟨gb, off + q3, none⟩ = some (.int .u8 x3) := by subst hq3; rw [h3]; exact SRC2.out wr OO.out _ (by omega)
      have b0 : 0 ≤ x0 ∧ x0 ≤ 255 := by rw [h0]; exact BB.out.get _
      have b1 : 0 ≤ x1 ∧ x1 ≤ 255 := by rw [h1]; exact BB.out.get _
      have b2 : 0 ≤ x2 ∧ x2 ≤ 255 := by rw [h2]; exact BB.out.get _
      have b3 : 0 ≤ x3 ∧ x3 ≤ 255 := by rw [h3]; exact BB.out.get _
      have hk64 : (k : Int) < 64 := by omega
      have y0 : IntKind.u32.wrap x0 = x0 := IntWalk.u32_in _ (by omega)
      have y1 : IntKind.u32.wrap x1 = x1 := IntWalk.u32_in _ (by omega)
      have y2 : IntKind.u32.wrap x2 = x2 := IntWalk.u32_in _ (by omega)
      have y3 : IntKind.u32.wrap x3 = x3 := IntWalk.u32_in _ (by omega)
      have s0 : IntKind.u32.wrap (x0 * 16777216) = x0 * 16777216 := IntWalk.u32_in _ (by omega)
      have s1 : IntKind.u32.wrap (x1 * 65536) = x1 * 65536 := IntWalk.u32_in _ (by omega)
      have s2 : IntKind.u32.wrap (x2 * 256) = x2 * 256 := IntWalk.u32_in _ (by omega)
      have WB := Lib.hid (show wordB B k = bits .or .u32 (bits .or .u32 (bits .or .u32 (x0 * 16777216) (x1 * 65536)) (x2 * 256)) x3 by
        unfold wordB
        simp only [List.getD_eq_getElem?_getD]
        rw [List.getElem?_eq_getElem (show 4 * k < B.length by omega), List.getElem?_eq_getElem (show 4 * k + 1 < B.length by omega), List.getElem?_eq_getElem (show 4 * k + 2 < B.length by omega), List.getElem?_eq_getElem (show 4 * k + 3 < B.length by omega), h0, h1, h2, h3]
        rfl)
      clear hq0 hq1 hq2 hq3 h0 h1 h2 h3
      go_wp2_with fail
      refine wp_region_still_tail 35 (by kernel_rfl) (by kernel_rfl) ?_
      change wpStill _ _ wr.drew _ _ _
      simp only [List.take_succ_cons, List.take_zero, List.drop_succ_cons, List.drop_zero]
      repeat still_step
      refine wpStill_nil ?_
      have ob := OB.out.drew
      go_wp2_with (first
        | (refine wpList_store_cell rfl 82 _ _ rfl (w.heap.size + 2) k 83 (U32 (W1 B k)) _ rfl rfl ob (by rw [size_U32, len_W1]; omega) size1_82 rfl rfl ?_; intro w3 g3 ho3; have G3 := Lib.hid g3; have O3 := Lib.hid ho3; clear g3 ho3))
      go_roundw
      case rel =>
        refine ⟨k + 1, by omega, by go_num, ?_, OO.out.drew.trans O3.out⟩
        unfold W1
        rw [← set_U32, WB.out]
        exact G3.out
      case measure => simp [intOf]; omega
    · have hk16 : k = 16 := by omega
      subst hk16
      have OB := Lib.hid hb
      have OO := Lib.hid ho
      clear hb ho
      rw [show ((16 : Nat) : Int) = 16 from rfl]
      go_wp2_with fail
      go_loopw [10] (fun i wr => ∃ j t : Nat, j ≤ 48 ∧ t = 16 + j ∧ i = .int .i64 (t : Int) ∧ Blk wr (w.heap.size + 2) 83 (U32 (W2 B j)) ∧ Only w2 wr (w.heap.size + 2)) (fun i _ => 64 - (intOf i).toNat)
      case atStart => exact ⟨0, 16, Nat.zero_le _, rfl, rfl, OB.out, OO.out⟩
      case round =>
        obtain ⟨j, t, hj, ht, rfl, hb, ho⟩ := hrel
        by_cases hlt : t < 64
        · have OB := Lib.hid hb
          have OO := Lib.hid ho
          clear hb ho
          have ht16 : 16 ≤ t := by omega
          obtain ⟨L, hL⟩ : ∃ L, L = W2 B j := ⟨_, rfl⟩
          have hLl : L.length = 64 := by rw [hL]; exact len_W2 B j
          have hLw : ∀ x ∈ L, W32 x := by rw [hL]; exact w32_W2 B j
          obtain ⟨q15, hq15⟩ : ∃ q : Nat, q = t - 15 := ⟨_, rfl⟩
          obtain ⟨q2, hq2⟩ : ∃ q : Nat, q = t - 2 := ⟨_, rfl⟩
          obtain ⟨q7, hq7⟩ : ∃ q : Nat, q = t - 7 := ⟨_, rfl⟩
          obtain ⟨q16, hq16⟩ : ∃ q : Nat, q = t - 16 := ⟨_, rfl⟩
          obtain ⟨x, hx⟩ : ∃ x, x = L.getD q15 0 := ⟨_, rfl⟩
          obtain ⟨y, hy⟩ : ∃ x, x = L.getD q2 0 := ⟨_, rfl⟩
          obtain ⟨z, hz⟩ : ∃ x, x = L.getD q7 0 := ⟨_, rfl⟩
          obtain ⟨u, hu⟩ : ∃ x, x = L.getD q16 0 := ⟨_, rfl⟩
          have w15 : IntKind.i64.wrap ((t : Int) - 15) = (q15 : Int) := by rw [IntWalk.i64_in _ (by omega)]; omega
          have w2' : IntKind.i64.wrap ((t : Int) - 2) = (q2 : Int) := by rw [IntWalk.i64_in _ (by omega)]; omega
          have w7' : IntKind.i64.wrap ((t : Int) - 7) = (q7 : Int) := by rw [IntWalk.i64_in _ (by omega)]; omega
          have w16' : IntKind.i64.wrap ((t : Int) - 16) = (q16 : Int) := by rw [IntWalk.i64_in _ (by omega)]; omega
          have v15 : (q15 : Int) < 64 := by omega
          have v2 : (q2 : Int) < 64 := by omega
          have v7 : (q7 : Int) < 64 := by omega
          have v16 : (q16 : Int) < 64 := by omega
          have vt : (t : Int) < 64 := by omega
          have obL : Blk wr (w.heap.size + 2) 83 (U32 L) := by rw [hL]; exact OB.out
          have c15 : wr.cell? ⟨w.heap.size + 2, q15, none⟩ = some (.int .u32 x) := by rw [hx]; exact obL.at32 _ (by omega)
          have c2 : wr.cell? ⟨w.heap.size + 2, q2, none⟩ = some (.int .u32 y) := by rw [hy]; exact obL.at32 _ (by omega)
          have c7 : wr.cell? ⟨w.heap.size + 2, q7, none⟩ = some (.int .u32 z) := by rw [hz]; exact obL.at32 _ (by omega)
          have c16 : wr.cell? ⟨w.heap.size + 2, q16, none⟩ = some (.int .u32 u) := by rw [hu]; exact obL.at32 _ (by omega)
          have WX := Lib.hid (show W32 x by rw [hx]; exact w32_getD hLw _)
          have WY := Lib.hid (show W32 y by rw [hy]; exact w32_getD hLw _)
          have HL := Lib.hid hL
          have BL := Lib.hid obL
          have LL := Lib.hid hLl
          have HT := Lib.hid ht
          have SC := Lib.hid (show sched L t = IntKind.u32.wrap (IntKind.u32.wrap (IntKind.u32.wrap (bits .xor .u32 (bits .xor .u32 (rr 32768 131072 y) (rr 8192 524288 y)) (y / 1024) + z)
            + bits .xor .u32 (bits .xor .u32 (rr 33554432 128 x) (rr 16384 262144 x)) (x / 8)) + u) by unfold sched; rw [hx, hy, hz, hu, hq15, hq2, hq7, hq16])
          clear hx hy hz hu hq15 hq2 hq7 hq16 hL hLw obL hLl ht
          have R17 := Lib.hid (fun V : World => still_of (rot_17 y V WY.out))
          have R19 := Lib.hid (fun V : World => still_of (rot_19 y V WY.out))
          have R7 := Lib.hid (fun V : World => still_of (rot_7 x V WX.out))
          have R18 := Lib.hid (fun V : World => still_of (rot_18 x V WX.out))
          go_wp2_with fail
          refine wp_region_still_lit (by kernel_rfl) (by kernel_rfl) ?_
          change wpStill _ _ wr.drew _ _ _
          repeat still_step
          refine wpStill_nil ?_
          go_wp2_with fail
          change Code.wp _ _ _ _ wr.drew
          refine wp_region_still_tail 33 (by kernel_rfl) (by kernel_rfl) ?_
          change wpStill _ _ wr.drew.drew _ _ _
          simp only [List.take_succ_cons, List.take_zero, List.drop_succ_cons, List.drop_zero]
          repeat (refine wpStill_step (fun K hK => ?_); go_simp; first | (refine hK _ ?_) | (with_reducible refine ⟨_, R17.out _, hK _ ?_⟩) | (with_reducible refine ⟨_, R19.out _, hK _ ?_⟩) | (with_reducible refine ⟨_, R7.out _, hK _ ?_⟩) | (with_reducible refine ⟨_, R18.out _, hK _ ?_⟩); clear hK K)
          refine wpStill_nil ?_
          have ob := BL.out.drew.drew
          go_wp2_with (first
            | (refine wpList_store_cell rfl 82 _ _ rfl (w.heap.size + 2) t 83 (U32 L) _ rfl rfl ob (by rw [size_U32, LL.out]; omega) size1_82 rfl rfl ?_; intro w3 g3 ho3; have G3 := Lib.hid g3; have O3 := Lib.hid ho3; clear g3 ho3))
          go_roundw
          case rel =>
            have ht := HT.out
            refine ⟨j + 1, t + 1, by omega, by omega, by go_num, ?_, OO.out.drew.drew.trans O3.out⟩
            unfold W2
            rw [← HT.out, ← HL.out, SC.out, ← set_U32]
            exact G3.out
          case measure => simp [intOf]; omega
        · have ht64 : t = 64 := by omega
          have hj48 : j = 48 := by omega
          subst hj48
          subst ht64
          have OB := Lib.hid hb
          have OO := Lib.hid ho
          clear hb ho ht
          rw [show ((64 : Nat) : Int) = 64 from rfl]
          go_wp2_with fail
          have XW := Lib.hid (OO.out.blk X2.out (by omega))
          obtain ⟨r0, hr0⟩ : ∃ r, r = RS.of S := ⟨_, rfl⟩
          have c0 : wr.cell? ⟨w.heap.size, 0, none⟩ = some (.int .u32 r0.a) := by rw [hr0]; exact XW.out.at32 _ (by omega)
          have c1 : wr.cell? ⟨w.heap.size, 1, none⟩ = some (.int .u32 r0.c) := by rw [hr0]; exact XW.out.at32 _ (by omega)
          have c2 : wr.cell? ⟨w.heap.size, 2, none⟩ = some (.int .u32 r0.d) := by rw [hr0]; exact XW.out.at32 _ (by omega)
          have c3 : wr.cell? ⟨w.heap.size, 3, none⟩ = some (.int .u32 r0.e) := by rw [hr0]; exact XW.out.at32 _ (by omega)
          have c4 : wr.cell? ⟨w.heap.size, 4, none⟩ = some (.int .u32 r0.f) := by rw [hr0]; exact XW.out.at32 _ (by omega)
          have c5 : wr.cell? ⟨w.heap.size, 5, none⟩ = some (.int .u32 r0.g) := by rw [hr0]; exact XW.out.at32 _ (by omega)
          have c6 : wr.cell? ⟨w.heap.size, 6, none⟩ = some (.int .u32 r0.h) := by rw [hr0]; exact XW.out.at32 _ (by omega)
          have c7 : wr.cell? ⟨w.heap.size, 7, none⟩ = some (.int .u32 r0.i) := by rw [hr0]; exact XW.out.at32 _ (by omega)
          have HR0 := Lib.hid hr0
          clear hr0
          refine wp_region_still_lit (by kernel_rfl) (by kernel_rfl) ?_
          change wpStill _ _ wr.drew _ _ _
          repeat still_step
          refine wpStill_nil ?_
          obtain ⟨L, hL⟩ : ∃ L, L = W2 B 48 := ⟨_, rfl⟩
          have hLl : L.length = 64 := by rw [hL]; exact len_W2 B 48
          have BL := Lib.hid (show Blk wr (w.heap.size + 2) 83 (U32 L) by rw [hL]; exact OB.out)
          have HL := Lib.hid hL
          have KB := Lib.hid (OO.out.blk HK2.out (by have := HK.out.lt; omega))
          have O1 := Lib.hid (show Blk wr (w.heap.size + 1) 86 (U32 Z8w) from OO.out.blk ((B2.out.block _ (by omega)).trans G1.out) (by omega))
          have BW := Lib.hid (show Kept w wr (fun _ => False) from Only.kept (Kept.below B02.out) OO.out (.inr (by omega)))
          clear c0 c1 c2 c3 c4 c5 c6 c7 hL
          go_wp2_with fail
          go_loopw [13, 14, 15, 16, 17, 18, 19, 20, 124] (fun va vc vd ve vf vg vh vi vt wq => ∃ (t : Nat) (r : RS), t ≤ 64 ∧ r = rounds S K L t ∧ va = .int .u32 r.a ∧ vc = .int .u32 r.c ∧ vd = .int .u32 r.d ∧ ve = .int .u32 r.e ∧ vf = .int .u32 r.f ∧ vg = .int .u32 r.g ∧ vh = .int .u32 r.h ∧ vi = .int .u32 r.i
            ∧ vt = .int .i64 (t : Int) ∧ ∃ n, wq = wr.drewN n) (fun _ _ _ _ _ _ _ _ t _ => 64 - (intOf t).toNat)
          case atStart => exact ⟨0, r0, Nat.zero_le _, HR0.out, rfl, rfl, rfl, rfl, rfl, rfl, rfl, rfl, rfl, 1, rfl⟩
          case round =>
            obtain ⟨t, r, ht, hr, rfl, rfl, rfl, rfl, rfl, rfl, rfl, rfl, rfl, nq, rfl⟩ := hrel
            have hw32 : r.w32 := by rw [hr]; exact rounds_w32 S K L SW.out t
            by_cases hlt : t < 64
            · have HR := Lib.hid hr
              obtain ⟨ra, rc, rd, re, rf, rg, rh, ri⟩ := r
              obtain ⟨⟨a0, a1⟩, ⟨x0, x1⟩, ⟨d0, d1⟩, ⟨e0, e1⟩, ⟨f0, f1⟩, ⟨g0, g1⟩, ⟨h0, h1⟩, ⟨i0, i1⟩⟩ := hw32
              dsimp only at a0 a1 x0 x1 d0 d1 e0 e1 f0 f1 g0 g1 h0 h1 i0 i1
              dsimp only
              obtain ⟨kt, hkt⟩ : ∃ x, x = K.getD t 0 := ⟨_, rfl⟩
              obtain ⟨lt, hlt2⟩ : ∃ x, x = L.getD t 0 := ⟨_, rfl⟩
              have cK : wr.cell? ⟨gk, t, none⟩ = some (.int .u32 kt) := by rw [hkt]; exact KB.out.at32 _ (by omega)
              have cL : wr.cell? ⟨w.heap.size + 2, t, none⟩ = some (.int .u32 lt) := by rw [hlt2]; exact BL.out.at32 _ (by omega)
              have ht64 : (t : Int) < 64 := by omega
              have HKT := Lib.hid hkt
              have HLT := Lib.hid hlt2
              have RE := Lib.hid (show (rounds S K L (t + 1)) = RS.next ⟨ra, rc, rd, re, rf, rg, rh, ri⟩ kt lt by rw [hkt, hlt2, hr]; rfl)
              have R6 := Lib.hid (fun V : World => still_of (rot_6 rf V ⟨f0, f1⟩))
              have R11 := Lib.hid (fun V : World => still_of (rot_11 rf V ⟨f0, f1⟩))
              have R25 := Lib.hid (fun V : World => still_of (rot_25 rf V ⟨f0, f1⟩))
              have R2 := Lib.hid (fun V : World => (rot_2 ra V ⟨a0, a1⟩))
              have R13 := Lib.hid (fun V : World => (rot_13 ra V ⟨a0, a1⟩))
              have R22 := Lib.hid (fun V : World => (rot_22 ra V ⟨a0, a1⟩))
              clear hkt hlt2 hr
              --ROUND3
              go_wp2_with fail
              refine wp_region_still_lit (by kernel_rfl) (by kernel_rfl) ?_
              change wpStill _ _ (wr.drewN (nq + 1)) _ _ _
              repeat (refine wpStill_step (fun K hK => ?_); go_simp; first | (refine hK _ ?_) | (with_reducible refine ⟨_, R6.out _, hK _ ?_⟩) | (with_reducible refine ⟨_, R11.out _, hK _ ?_⟩) | (with_reducible refine ⟨_, R25.out _, hK _ ?_⟩); clear hK K)
              refine wpStill_nil ?_
              change Exit.then _ _ _ _ (wr.drewN (nq + 1))
              obtain ⟨t1, ht1⟩ : ∃ t1, t1 = rt1 ⟨ra, rc, rd, re, rf, rg, rh, ri⟩ kt lt := ⟨_, rfl⟩
              have HT1 := Lib.hid ht1
              unfold rt1 at ht1
              dsimp only at ht1
              rw [← ht1]
              clear ht1 R6 R11 R25
              --END3
              go_wp2_with (go_at_call 74; (first | (with_reducible refine (R2.out _).mono ?_) | (with_reducible refine (R13.out _).mono ?_) | (with_reducible refine (R22.out _).mono ?_)); rintro e w' ⟨rfl, rfl⟩)
              go_roundw
              case rel => exact ⟨t + 1, RS.next ⟨ra, rc, rd, re, rf, rg, rh, ri⟩ kt lt, by omega, RE.out.symm, by rw [HT1.out]; rfl, rfl, rfl, rfl, by rw [HT1.out]; rfl, rfl, rfl, rfl, by go_num, nq + 1, rfl⟩
              case measure => simp [intOf]; omega
            · have ht2 : t = 64 := by omega
              subst ht2
              have HR := Lib.hid hr
              obtain ⟨ra, rc, rd, re, rf, rg, rh, ri⟩ := r
              obtain ⟨⟨a0, a1⟩, ⟨x0, x1⟩, ⟨d0, d1⟩, ⟨e0, e1⟩, ⟨f0, f1⟩, ⟨g0, g1⟩, ⟨h0, h1⟩, ⟨i0, i1⟩⟩ := hw32
              dsimp only at a0 a1 x0 x1 d0 d1 e0 e1 f0 f1 g0 g1 h0 h1 i0 i1
              dsimp only
              obtain ⟨sa, ha⟩ : ∃ x, x = S.getD 0 0 := ⟨_, rfl⟩
              obtain ⟨sc, hc⟩ : ∃ x, x = S.getD 1 0 := ⟨_, rfl⟩
              obtain ⟨sd, hd⟩ : ∃ x, x = S.getD 2 0 := ⟨_, rfl⟩
              obtain ⟨se, he⟩ : ∃ x, x = S.getD 3 0 := ⟨_, rfl⟩
              obtain ⟨sf, hf⟩ : ∃ x, x = S.getD 4 0 := ⟨_, rfl⟩
              obtain ⟨sg, hg⟩ : ∃ x, x = S.getD 5 0 := ⟨_, rfl⟩
              obtain ⟨sh, hh⟩ : ∃ x, x = S.getD 6 0 := ⟨_, rfl⟩
              obtain ⟨si, hi⟩ : ∃ x, x = S.getD 7 0 := ⟨_, rfl⟩
              have c0 : wr.cell? ⟨w.heap.size, 0, none⟩ = some (.int .u32 sa) := by rw [ha]; exact XW.out.at32 _ (by omega)
              have c1 : wr.cell? ⟨w.heap.size, 1, none⟩ = some (.int .u32 sc) := by rw [hc]; exact XW.out.at32 _ (by omega)
              have c2 : wr.cell? ⟨w.heap.size, 2, none⟩ = some (.int .u32 sd) := by rw [hd]; exact XW.out.at32 _ (by omega)
              have c3 : wr.cell? ⟨w.heap.size, 3, none⟩ = some (.int .u32 se) := by rw [he]; exact XW.out.at32 _ (by omega)
              have c4 : wr.cell? ⟨w.heap.size, 4, none⟩ = some (.int .u32 sf) := by rw [hf]; exact XW.out.at32 _ (by omega)
              have c5 : wr.cell? ⟨w.heap.size, 5, none⟩ = some (.int .u32 sg) := by rw [hg]; exact XW.out.at32 _ (by omega)
              have c6 : wr.cell? ⟨w.heap.size, 6, none⟩ = some (.int .u32 sh) := by rw [hh]; exact XW.out.at32 _ (by omega)
              have c7 : wr.cell? ⟨w.heap.size, 7, none⟩ = some (.int .u32 si) := by rw [hi]; exact XW.out.at32 _ (by omega)
              obtain ⟨m0, m0'⟩ : W32 sa := by rw [ha]; exact w32_getD SW.out _
              obtain ⟨m1, m1'⟩ : W32 sc := by rw [hc]; exact w32_getD SW.out _
              obtain ⟨m2, m2'⟩ : W32 sd := by rw [hd]; exact w32_getD SW.out _
              obtain ⟨m3, m3'⟩ : W32 se := by rw [he]; exact w32_getD SW.out _
              obtain ⟨m4, m4'⟩ : W32 sf := by rw [hf]; exact w32_getD SW.out _
              obtain ⟨m5, m5'⟩ : W32 sg := by rw [hg]; exact w32_getD SW.out _
              obtain ⟨m6, m6'⟩ : W32 sh := by rw [hh]; exact w32_getD SW.out _
              obtain ⟨m7, m7'⟩ : W32 si := by rw [hi]; exact w32_getD SW.out _
              obtain ⟨R, hR⟩ : ∃ R, R = [(sa + ra) % 4294967296, (sc + rc) % 4294967296, (sd + rd) % 4294967296, (se + re) % 4294967296, (sf + rf) % 4294967296, (sg + rg) % 4294967296, (sh + rh) % 4294967296, (si + ri) % 4294967296] := ⟨_, rfl⟩
              have RB := Lib.hid (show blockF S B K = R by
                unfold blockF
                rw [← HL.out, ← HR.out, hR, ha, hc, hd, he, hf, hg, hh, hi])
              have HRR := Lib.hid hR
              have RL := Lib.hid (show R.length = 8 by rw [hR]; rfl)
              have RS' := Lib.hid (show (Try.prog.info? 86).map (·.size) = some (U32 R).size by rw [hR]; exact size86)
              clear ha hc hd he hf hg hh hi hR
              rw [show ((64 : Nat) : Int) = 64 from rfl]
              go_wp2_with (first
                | (refine wpList_store_blk rfl 86 _ _ rfl (w.heap.size + 1) 86 (U32 Z8w) (U32 R) rfl (by rw [HRR.out]; rfl) O1.out (by rw [size_U32, RL.out]; rfl) RS'.out (one_U32 _) ?_; intro w9 g9 ho9; have G9 := Lib.hid g9; have O9 := Lib.hid ho9; clear g9 ho9))
              refine bodyPost_ret (results_cell1 rfl _ _ (w.heap.size + 1) 86 (U32 R) _ rfl G9.out Try.underlying86 rfl RS'.out) rfl ⟨?_, ?_⟩
              · rw [RB.out]
              · exact (Only.kept (F := fun _ => False) (BW.out.drewN nq) O9.out (.inr (Nat.le_succ _))).toBelow
end Go.Proofs.Ytfodboooopkheaa
