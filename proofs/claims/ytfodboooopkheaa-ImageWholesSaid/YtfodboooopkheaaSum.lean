/- sha.Sum: the digest of one part. -/
import Derived.Test.YtfodboooopkheaaConst
namespace Go.Proofs.Ytfodboooopkheaa
open Go.RowKit

def zeros (n : Nat) : Nat := (119 - n % 64) % 64
/-- what is hashed: the bytes, a one, zeros, the bits' number -/
def padded (l : List Int) : List Int := (l ++ [128] ++ List.replicate (zeros l.length) 0) ++ layL (8 * (l.length : Int)) 8
theorem len_padded (l : List Int) : (padded l).length = 64 * ((l.length + 8) / 64 + 1) := by
  simp only [padded, List.length_append, List.length_replicate, len_layL, List.length_cons, List.length_nil, zeros]
  omega
theorem byt_padded (l : List Int) (h : Byt l) : Byt (padded l) := by
  unfold padded
  refine Byt.append (Byt.append (Byt.append h ?_) (Byt.replicate _)) (byt_layL _ _)
  intro x hx
  simp at hx
  omega
def sumS (P : List Int) : Nat → List Int
  | 0 => S0
  | j + 1 => blockF (sumS P j) ((P.drop (64 * j)).take 64) KC
theorem len_sumS (P : List Int) : ∀ j, (sumS P j).length = 8
  | 0 => rfl
  | _ + 1 => rfl
theorem w32_sumS (P : List Int) : ∀ j, ∀ x ∈ sumS P j, W32 x
  | 0 => w32_S0
  | j + 1 => by
    intro x hx
    simp only [sumS, blockF, List.mem_cons, List.not_mem_nil, or_false] at hx
    rcases hx with rfl | rfl | rfl | rfl | rfl | rfl | rfl | rfl <;> exact w32_mod _
def digest (S : List Int) : List Int := (List.range 32).map fun i => S.getD (i / 4) 0 / 2 ^ (24 - 8 * (i % 4)) % 256
/-- the digest of bytes -/
def shaF (l : List Int) : List Int := digest (sumS (padded l) ((l.length + 8) / 64 + 1))
theorem len_digest (S : List Int) : (digest S).length = 32 := by simp [digest]
theorem byt_digest (S : List Int) : Byt (digest S) := by
  intro x hx
  obtain ⟨i, _, rfl⟩ := List.mem_map.1 hx
  omega
theorem Kept.toBelow' {w w' : World} {n : Nat} (h : Kept w w' fun _ => False) (hn : w.heap.size = n) : Below n w w' := by subst hn; exact h.toBelow
def lenOf : Value → Nat
  | .slice _ n _ => n
  | _ => 0
def outL (S : List Int) (k : Nat) : List Int := (digest S).take k ++ List.replicate (32 - k) 0
theorem len_outL (S : List Int) (k : Nat) (h : k ≤ 32) : (outL S k).length = 32 := by simp [outL, len_digest]; omega
theorem outL_succ (S : List Int) (k : Nat) (h : k < 32) : outL S (k + 1) = (outL S k).set k (S.getD (k / 4) 0 / 2 ^ (24 - 8 * (k % 4)) % 256) := by
  unfold outL
  have hl : k < (digest S).length := by rw [len_digest]; exact h
  rw [List.take_succ_eq_append_getElem hl, List.set_append_right _ _ (by simp [len_digest]; omega), show 32 - k = (32 - (k + 1)) + 1 by omega, List.replicate_succ]
  have e : k - (List.take k (digest S)).length = 0 := by simp [len_digest]; omega
  rw [e]
  simp [digest]
theorem run_zero28 (w : World) : (zeroValue 28).run Try.prog w = .ok (.agg (U8 (List.replicate 32 0))) w := by kernel_rfl
set_option maxRecDepth 100000 in
set_option maxHeartbeats 4000000 in
theorem sum_any (gp cap : Nat) (t : TypeId) (cs : Array Value) (ad : Addr) (c : Nat) (l : List Int) (w : World) (hp : Blk w gp t cs) (hc : cs[0]? = some (.slice (some ad) l.length c)) (hn : l.length ≤ 1000000) (hl : Byt l)
    (hsrc : ∀ j u, (l.map (Value.int .u8))[j]? = some u → w.cell? (ad.add j) = some u) (had : ad.block < w.heap.size) :
    Calls Try.prog 10 #[.slice (some ⟨gp, 0, none⟩) 1 cap] w fun e w' => e = .returned (.agg (U8 (shaF l))) ∧ Below w.heap.size w w' := by
  have HP := Lib.hid hp
  have HC := Lib.hid hc
  have SRC := Lib.hid hsrc
  have HB := Lib.hid hl
  obtain ⟨n, hn'⟩ : ∃ n, n = l.length := ⟨_, rfl⟩
  have HN := Lib.hid hn'
  have hn2 : n ≤ 1000000 := by omega
  have JN := Lib.hid (show ∀ V, Below w.heap.size w V → Calls Try.prog 44 #[.slice (some ⟨gp, 0, none⟩) 1 cap, .slice none 0 0] V fun e w' => ∃ v, e = .returned v ∧ w'.ownsRow V.heap.size 5 1 v n (l.map (Value.int .u8)) ∧ Below V.heap.size V w' from fun V hV => by
    rw [hn']
    exact join_one gp cap t cs ad c l V ((hV.block _ hp.lt).trans hp) hc hn (fun j u h => by
      have e : (ad.add j).block = ad.block := by unfold Addr.add; split <;> rfl
      rw [World.cell?_of_block (w := w) (hV.block _ (by rw [e]; exact had))]; exact hsrc j u h))
  obtain ⟨i0, hi, hz0, hz1, hz2⟩ := info_parts info5
  clear hp hc hsrc hl hn had hn'
  go_enter Try.func10, Try.ntmps10
  go_wp2_with (first
    | (refine wpList_new rfl 28 rfl _ run_zero28 w.heap.size rfl ?_; intro w1 g0 hs1 hb1; have G1 := Lib.hid (show Blk w1 w.heap.size 28 (U8 (List.replicate 32 0)) from g0); have B1 := Lib.hid hb1; clear g0 hb1)
    | (go_at_call 44; refine (JN.out _ B1.out).mono ?_; rintro e w2 ⟨v2, rfl, own2, b2⟩; obtain ⟨sa2, sc2, rfl⟩ := own_form own2; have OW2 := Lib.hid (show w2.ownsRow (w.heap.size + 1) 5 1 (.slice sa2 n sc2) n (l.map (Value.int .u8)) by rw [← hs1]; exact own2); have B2 := Lib.hid b2; clear own2 b2)
    | (at_builtin; refine wpList_append_own_at _ rfl _ _ 22 rfl (w.heap.size + 1) 5 i0 (.int .u8 0) 1 1 Try.underlying22 hi hz0 hz1 hz2 rfl (by decide) (.slice sa2 n sc2) n (l.map (Value.int .u8)) rfl (OW2.out.alloc _) ⟨w2.heap.size, 0, none⟩ 1 1 [.int .u8 128] rfl rfl (cell_one_new _ _ _) (by simp [Value.oneCell']) (by unfold maxLen; omega) (by omega) (by have := B2.out.size; simp; omega) ?_
       intro v' w3 own3 grow3 _ at3
       obtain ⟨sa3, sc3, rfl⟩ := own_form own3
       have OW3 := Lib.hid own3; have R3 := Lib.hid grow3; clear own3 grow3 at3))
  -- the zeros
  obtain ⟨z, hz⟩ : ∃ z, z = zeros n := ⟨_, rfl⟩
  have hz56 : (n + 1 + z) % 64 = 56 ∧ z < 64 ∧ ∀ k, k < z → ¬ (n + 1 + k) % 64 = 56 := by
    rw [hz]; unfold zeros
    refine ⟨by omega, by omega, fun k hk => by omega⟩
  have HZ := Lib.hid hz
  have HZ5 := Lib.hid hz56
  have II := Lib.hid (show w3.ownsRow (w.heap.size + 1) 5 1 (.slice sa3 (n + 1) sc3) (n + 1) ((l ++ [128] ++ List.replicate 0 0).map (Value.int .u8)) ∧ Below (w.heap.size + 1) w1 w3 from
    ⟨by simpa using OW3.out, (Kept.grown (F := fun _ => False) (((Kept.below B2.out).alloc _)) R3.out (fun j hj => .inr (by have := (OW2.out.lt j hj).1; omega))).toBelow' hs1⟩)
  clear hz hz56
  go_loopw [3] (fun v wr => ∃ (k : Nat) (m : Nat) (v' : Value), k ≤ z ∧ m = n + 1 + k ∧ v' = v ∧ wr.ownsRow (w.heap.size + 1) 5 1 v' m ((l ++ [128] ++ List.replicate k 0).map (Value.int .u8)) ∧ Below (w.heap.size + 1) w1 wr) (fun v _ => n + 1 + z - lenOf v)
  case atStart => exact ⟨0, n + 1, _, Nat.zero_le _, rfl, rfl, II.out⟩
  case round =>
    obtain ⟨k, m, v, hk, hm, rfl, hown, hbel⟩ := hrel
    obtain ⟨sa, sc, rfl⟩ := own_form hown
    have OW := Lib.hid hown
    have BE := Lib.hid hbel
    have HM := Lib.hid hm
    have hm2 : m ≤ 1000100 := by have := HZ5.out.2.1; omega
    clear hown hbel
    by_cases hlt : k < z
    · have hmod : ¬ (m : Int) % 64 = 56 := by have := HZ5.out.2.2 k hlt; omega
      clear hm
      go_wp2_with (at_builtin; refine wpList_append_own_at _ rfl _ _ 22 rfl (w.heap.size + 1) 5 i0 (.int .u8 0) 1 1 Try.underlying22 hi hz0 hz1 hz2 rfl (by decide) (.slice sa m sc) m ((l ++ [128] ++ List.replicate k 0).map (Value.int .u8)) rfl (OW.out.alloc _) ⟨wr.heap.size, 0, none⟩ 1 1 [.int .u8 0] rfl rfl (cell_one_new _ _ _) (by simp [Value.oneCell']) (by unfold maxLen; omega) (by omega) (by have := BE.out.size; simp; omega) ?_; intro v' w4 own4 grow4 _ at4; obtain ⟨sa4, sc4, rfl⟩ := own_form own4; have OW4 := Lib.hid own4; have R4 := Lib.hid grow4; clear own4 grow4 at4)
      go_roundw
      case rel =>
        refine ⟨k + 1, m + 1, _, by omega, by have := HM.out; omega, rfl, ?_, ?_⟩
        · have := OW4.out
          rw [List.replicate_succ', ← List.append_assoc, List.map_append]
          exact this
        · exact (Kept.grown (F := fun _ => False) ((Kept.below (w := w1) (by rw [hs1]; exact BE.out)).alloc _) R4.out (fun j hj => .inr (by have := (OW.out.lt j hj).1; omega))).toBelow' hs1
      case measure => have := HM.out; simp [lenOf]; omega
    · have hkz : k = z := by omega
      subst hkz
      have hmod : (m : Int) % 64 = 56 := by have := HZ5.out.1; omega
      clear hm
      go_wp2_with fail
      -- the bits' number
      clear hmod
      obtain ⟨P1, hP1⟩ : ∃ P, P = l ++ [128] ++ List.replicate k 0 := ⟨_, rfl⟩
      rw [← hP1] at OW
      have HP1 := Lib.hid hP1
      clear hP1
      obtain ⟨N, hN⟩ : ∃ N : Int, N = (n : Int) * 8 := ⟨_, rfl⟩
      have HNN := Lib.hid hN
      have hN0 : 0 ≤ N := by omega
      have hN1 : N ≤ 8000000 := by omega
      rw [← hN]
      clear hN
      go_loopw [3, 25] (fun v i wq => ∃ (j : Nat) (m' : Nat) (v' : Value), j ≤ 8 ∧ m' = m + j ∧ v' = v ∧ i = .int .i64 (j : Int) ∧ wq.ownsRow (w.heap.size + 1) 5 1 v' m' ((P1 ++ (layL N 8).take j).map (Value.int .u8)) ∧ Below (w.heap.size + 1) w1 wq) (fun _ i _ => 8 - (intOf i).toNat)
      case atStart => exact ⟨0, m, _, Nat.zero_le _, rfl, rfl, rfl, by simpa using OW.out, BE.out⟩
      case round =>
        obtain ⟨j, m', v, hj, hm', rfl, rfl, hown, hbel⟩ := hrel
        obtain ⟨sb, sd, rfl⟩ := own_form hown
        have OX := Lib.hid hown
        have BX := Lib.hid hbel
        have HM' := Lib.hid hm'
        have hm2' : m' ≤ 1000200 := by omega
        clear hown hbel hm'
        by_cases hlt : j < 8
        · go_wp2_with (at_builtin; refine wpList_append_own_at _ rfl _ _ 22 rfl (w.heap.size + 1) 5 i0 (.int .u8 0) 1 1 Try.underlying22 hi hz0 hz1 hz2 rfl (by decide) (.slice sb m' sd) m' ((P1 ++ (layL N 8).take j).map (Value.int .u8)) rfl (OX.out.alloc _) ⟨wr.heap.size, 0, none⟩ 1 1 [.int .u8 (N / 2 ^ (56 - 8 * j) % 256)] rfl rfl (cell_one_new _ _ _) (by simp [Value.oneCell']) (by unfold maxLen; omega) (by omega) (by have := BX.out.size; simp; omega) ?_; intro v' w4 own4 grow4 _ at4; obtain ⟨sa4, sc4, rfl⟩ := own_form own4; have OW4 := Lib.hid own4; have R4 := Lib.hid grow4; clear own4 grow4 at4)
          go_roundw
          case rel =>
            refine ⟨j + 1, m' + 1, _, by omega, by have := HM'.out; omega, rfl, by go_num, ?_, ?_⟩
            · have := OW4.out
              have e : (layL N 8).take (j + 1) = (layL N 8).take j ++ [N / 2 ^ (56 - 8 * j) % 256] := by
                rw [List.take_succ_eq_append_getElem (by rw [len_layL]; omega), get_layL N 8 j hlt]
                unfold byteAt
                rw [show 8 * (8 - 1 - j) = 56 - 8 * j by omega]
              rw [e, ← List.append_assoc, List.map_append]
              exact this
            · exact (Kept.grown (F := fun _ => False) ((Kept.below (w := w1) (by rw [hs1]; exact BX.out)).alloc _) R4.out (fun j hj => .inr (by have := (OX.out.lt j hj).1; omega))).toBelow' hs1
          case measure => simp [intOf]; omega
        · have hj8 : j = 8 := by omega
          subst hj8
          obtain ⟨P, hP⟩ : ∃ P, P = padded l := ⟨_, rfl⟩
          have hPe : P1 ++ (layL N 8).take 8 = P := by
            rw [List.take_of_length_le (by rw [len_layL]; omega), hP, HP1.out, HNN.out, HN.out]
            unfold padded
            rw [HZ.out, HN.out, Int.mul_comm]
          obtain ⟨nb, hnb⟩ : ∃ nb, nb = (n + 8) / 64 + 1 := ⟨_, rfl⟩
          have hPl : P.length = 64 * nb := by rw [hP, len_padded, hnb, HN.out]
          have OY := Lib.hid (show wr.ownsRow (w.heap.size + 1) 5 1 (.slice sb m' sd) m' (P.map (Value.int .u8)) by rw [← hPe]; exact OX.out)
          have hm64 : m' = 64 * nb := by
            have := OY.out.1
            simpa [hPl] using this.symm
          have hPb : Byt P := by rw [hP]; exact byt_padded l HB.out
          have GP := Lib.hid hP
          have GNB := Lib.hid hnb
          have GPL := Lib.hid hPl
          have GPB := Lib.hid hPb
          have hnb2 : nb ≤ 20000 := by omega
          obtain ⟨g, cp, rfl, rfl⟩ : ∃ g cp, sb = some ⟨g, 0, none⟩ ∧ sd = cp := by
            rcases OY.out.2 with ⟨_, h0⟩ | ⟨g, cap, cur, h, _⟩
            · omega
            · cases h; exact ⟨g, _, rfl, rfl⟩
          subst hm64
          clear hP hPe hPl hPb hnb
          rw [show ((8 : Nat) : Int) = 8 from rfl]
          go_wp2_with (first
            | (go_at_call 45; refine (constants_any _).mono ?_; rintro e w5 ⟨rfl, b5⟩; have B5 := Lib.hid b5; clear b5)
            | (go_at_call 46; refine (begun_any _).mono ?_; rintro e w6 ⟨rfl, b6⟩; have B6 := Lib.hid b6; clear b6)
            | (refine wpList_new rfl 83 rfl _ run_zero83 w6.heap.size rfl ?_; intro w7 g0 hs7 hb7; have G7 := Lib.hid (show Blk w7 w6.heap.size 83 (U32 Z64w) from g0); have B7 := Lib.hid hb7; clear g0 hb7)
            | (refine wpList_new rfl 86 rfl _ run_zero86 (w6.heap.size + 1) hs7 ?_; intro w8 g0 hs8 hb8; have G8 := Lib.hid (show Blk w8 (w6.heap.size + 1) 86 (U32 Z8w) from g0); have B8 := Lib.hid hb8; clear g0 hb8)
            | (refine wpList_store_blk rfl 83 _ _ rfl w6.heap.size 83 (U32 Z64w) (U32 KC) rfl rfl ((B8.out.block _ (by omega)).trans G7.out) rfl size83 (one_U32 _) ?_; intro w9 g9 ho9; have G9 := Lib.hid g9; have O9 := Lib.hid ho9; clear g9 ho9)
            | (refine wpList_store_blk rfl 86 _ _ rfl (w6.heap.size + 1) 86 (U32 Z8w) (U32 S0) rfl rfl (O9.out.blk G8.out (by omega)) rfl size86 (one_U32 _) ?_; intro w10 g10 ho10; have G10 := Lib.hid g10; have O10 := Lib.hid ho10; clear g10 ho10))
          obtain ⟨g6, hg6⟩ : ∃ g, g = w6.heap.size := ⟨_, rfl⟩
          have hcp := own_cells OY.out
          have hgw : g < wr.heap.size := hcp.2.2.1
          have e58 : Below wr.heap.size wr w8 := B5.out.trans ((B6.out.mono B5.out.size).trans ((B7.out.mono (Nat.le_trans B5.out.size B6.out.size)).trans (B8.out.mono (Nat.le_trans (Nat.le_trans B5.out.size B6.out.size) (Nat.le_succ _)))))
          have hw6 : wr.heap.size ≤ w6.heap.size := Nat.le_trans B5.out.size B6.out.size
          have K10 := Lib.hid (show Kept wr w10 (fun _ => False) from Only.kept (Only.kept (Kept.below e58) O9.out (.inr hw6)) O10.out (.inr (Nat.le_succ_of_le hw6)))
          have GK := Lib.hid (show Blk w10 g6 83 (U32 KC) by rw [hg6]; exact O10.out.blk G9.out (by omega))
          have GS := Lib.hid (show Blk w10 (g6 + 1) 86 (U32 S0) by rw [hg6]; exact G10.out)
          have HS10 := Lib.hid (show w10.heap.size = g6 + 2 by rw [O10.out.size, O9.out.size, hs8, hg6])
          have GG := Lib.hid (show g < g6 by omega)
          have PC := Lib.hid (show ∀ V, Kept w10 V (fun k => k = g6 + 1) → ∀ i, (h : i < P.length) → V.cell? ⟨g, i, none⟩ = some (.int .u8 P[i]) from fun V hV i h => by
            rw [hV.cell (by show g < _; have := K10.out.size; omega) (by show ¬ g = _; omega), K10.out.cell (by show g < _; exact hgw) (by simp)]
            have := hcp.2.2.2 i (by simpa using h)
            simpa using this)
          have hcap : 64 * nb ≤ sd := hcp.1
          rw [← hg6]
          clear hcp e58 hw6 hg6
          go_frame
          go_loopw [3] (fun v wq => ∃ (j rem : Nat) (pj : Option Addr) (cj : Nat), j ≤ nb ∧ rem = 64 * nb - 64 * j ∧ rem ≤ cj ∧ .slice pj rem cj = v ∧ (j < nb → pj = some ⟨g, 64 * j, none⟩) ∧ Blk wq (g6 + 1) 86 (U32 (sumS P j)) ∧ Kept w10 wq (fun k => k = g6 + 1)) (fun v _ => lenOf v)
          case atStart => exact ⟨0, 64 * nb, _, _, Nat.zero_le _, rfl, hcap, rfl, fun _ => rfl, GS.out, Kept.refl _ _⟩
          case round =>
            obtain ⟨j, rem, pj, cj, hj, hrem, hcj, rfl, hpj, hb, hk⟩ := hrel
            have GB := Lib.hid hb
            have GKq := Lib.hid hk
            by_cases hlt : j < nb
            · obtain rfl := hpj hlt
              have hr64 : 64 ≤ rem := by omega
              have BA := Lib.hid (block_any (sumS P j) ((P.drop (64 * j)).take 64) KC g (64 * j) rem cj g6 wr (len_sumS P j) (w32_sumS P j) hr64 (by rw [List.length_take, List.length_drop, GPL.out]; omega) ((GPB.out.drop _).take _)
                (fun i h => by rw [PC.out wr hk (64 * j + i) (by rw [GPL.out]; omega)]; simp) len_KC w32_KC (hk.blk GK.out (by omega)) (Nat.lt_of_lt_of_le (by have := HS10.out; have := GG.out; omega) hk.size))
              have HR := Lib.hid hrem
              have LS := Lib.hid (show (Try.prog.info? 86).map (·.size) = some (U32 (sumS P j)).size by rw [size_U32, len_sumS]; exact size86)
              have hrem2 : rem ≤ 2000000 := by omega
              clear hb hk hpj hrem
              go_wp2_with (first
                | (refine wpList_load_row rfl 86 _ rfl (g6 + 1) rfl 86 (U32 (sumS P j)) (0, 0) _ GB.out Try.underlying86 rfl LS.out ?_)
                | (go_at_call 47; refine BA.out.mono ?_; rintro e w11 ⟨rfl, b11⟩; have B11 := Lib.hid b11; clear b11)
                | (refine wpList_store_blk rfl 86 _ _ rfl (g6 + 1) 86 (U32 (sumS P j)) (U32 (sumS P (j + 1))) rfl rfl ((B11.out.block _ GB.out.lt).trans GB.out) (by rw [size_U32, size_U32, len_sumS, len_sumS]) size86 (one_U32 _) ?_; intro w12 g12 ho12; have G12 := Lib.hid g12; have O12 := Lib.hid ho12; clear g12 ho12))
              go_roundw
              case rel =>
                refine ⟨j + 1, rem - 64, _, cj - 64, by omega, by have := HR.out; omega, by omega, rfl, ?_, G12.out, ?_⟩
                · intro h2
                  have := HR.out
                  rw [if_neg (by omega), show 64 * (j + 1) = 64 * j + 64 by omega]
                · exact Only.kept (GKq.out.trans (G := fun _ => False) (Kept.below B11.out) (fun _ _ h => h.elim)) O12.out (.inl rfl)
              case measure => simp only [lenOf]; omega
            · have hjn : j = nb := by omega
              subst hjn
              have hr0 : rem = 0 := by omega
              subst hr0
              have G1X := Lib.hid (show Blk wr w.heap.size 28 (U8 (List.replicate 32 0)) from
                GKq.out.blk (K10.out.blk ((BX.out.block _ (by omega)).trans G1.out) (by simp)) (by have := GG.out; have := own_cells OY.out; omega))
              clear hb hk hpj hrem hcj
              obtain ⟨S, hS⟩ : ∃ S, S = sumS P j := ⟨_, rfl⟩
              have GB2 := Lib.hid (show Blk wr (g6 + 1) 86 (U32 S) by rw [hS]; exact GB.out)
              have HSS := Lib.hid hS
              have hSl : S.length = 8 := by rw [hS]; exact len_sumS P j
              have hSw : ∀ x ∈ S, W32 x := by rw [hS]; exact w32_sumS P j
              clear hS
              go_wp2_with fail
              go_loopw [48] (fun i wq => ∃ k : Nat, k ≤ 32 ∧ i = .int .i64 (k : Int) ∧ Blk wq w.heap.size 28 (U8 (outL S k)) ∧ Only wr wq w.heap.size) (fun i _ => 32 - (intOf i).toNat)
              case atStart => exact ⟨0, Nat.zero_le _, rfl, G1X.out, Only.refl _ _⟩
              case round =>
                obtain ⟨k, hk, rfl, hb, ho⟩ := hrel
                have OB := Lib.hid hb
                have OO := Lib.hid ho
                clear hb ho
                by_cases hlt : k < 32
                · obtain ⟨q, hq⟩ : ∃ q, q = k / 4 := ⟨_, rfl⟩
                  obtain ⟨r, hr⟩ : ∃ r, r = k % 4 := ⟨_, rfl⟩
                  have hq1 : (k : Int) / 4 = (q : Int) := by omega
                  have hr1 : (k : Int) % 4 = (r : Int) := by omega
                  have hq8 : q < 8 := by omega
                  have hr4 : r < 4 := by omega
                  have hne := (show g6 + 1 ≠ w.heap.size by have := GG.out; have := own_cells OY.out; omega)
                  obtain ⟨x, hx⟩ : ∃ x, x = S.getD q 0 := ⟨_, rfl⟩
                  have hxw : W32 x := by rw [hx]; exact w32_getD hSw _
                  obtain ⟨hx0, hx1⟩ := hxw
                  have cq : wr.cell? ⟨g6 + 1, q, none⟩ = some (.int .u32 x) := by rw [hx]; exact (OO.out.blk GB2.out hne).at32 _ (by omega)
                  have DK := Lib.hid (show outL S (k + 1) = (outL S k).set k (x / 2 ^ (24 - 8 * r) % 256) by rw [outL_succ S k hlt, hx, hq, hr])
                  have hOl : k < (U8 (outL S k)).size := by rw [size_U8, len_outL S k hk]; omega
                  clear hq hr hx hne
                  go_wp2_with (first
                    | (refine wpList_store_cell rfl 5 _ _ rfl w.heap.size k 28 (U8 (outL S k)) (.int .u8 (x / 2 ^ (24 - 8 * r) % 256)) rfl rfl OB.out hOl size1_5 rfl rfl ?_; intro w13 g13 ho13; have G13 := Lib.hid g13; have O13 := Lib.hid ho13; clear g13 ho13))
                  go_roundw
                  case rel =>
                    refine ⟨k + 1, by omega, by go_num, ?_, OO.out.trans O13.out⟩
                    rw [DK.out, ← set_U8]
                    exact G13.out
                  case measure => simp [intOf]; omega
                · have hk32 : k = 32 := by omega
                  subst hk32
                  have OF := Lib.hid (show Blk wr w.heap.size 28 (U8 (shaF l)) by
                    have e : shaF l = outL S 32 := by
                      unfold shaF outL
                      rw [HSS.out, GP.out, GNB.out, HN.out, List.take_of_length_le (by rw [len_digest]; omega)]
                      simp
                    rw [e]; exact OB.out)
                  have FS := Lib.hid (show (Try.prog.info? 28).map (·.size) = some (U8 (shaF l)).size by rw [size_U8]; unfold shaF; rw [len_digest]; exact size28)
                  go_wp2_with (first
                    | (refine wpList_load_row rfl 28 _ rfl w.heap.size rfl 28 (U8 (shaF l)) (0, 0) _ OF.out Try.underlying28 rfl FS.out ?_)
                    | (refine wpList_store_blk rfl 28 _ _ rfl w.heap.size 28 (U8 (shaF l)) (U8 (shaF l)) rfl rfl OF.out rfl FS.out (one_U8 _) ?_; intro w14 g14 ho14; have G14 := Lib.hid g14; have O14 := Lib.hid ho14; clear g14 ho14))
                  refine bodyPost_ret (results_cell1 rfl _ _ w.heap.size 28 (U8 (shaF l)) _ rfl G14.out Try.underlying28 rfl FS.out) rfl ⟨rfl, ?_⟩
                  have KA := Kept.below (F := fun _ => False) (B1.out.trans (BX.out.mono (Nat.le_succ _)))
                  have KB := KA.trans K10.out (fun _ _ h => h)
                  have KC' := KB.trans GKq.out (fun i hi h => by have := GG.out; have := own_cells OY.out; omega)
                  exact (Only.kept (Only.kept KC' OO.out (.inr (Nat.le_refl _))) O14.out (.inr (Nat.le_refl _))).toBelow
end Go.Proofs.Ytfodboooopkheaa
