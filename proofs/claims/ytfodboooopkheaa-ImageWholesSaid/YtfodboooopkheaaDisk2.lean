/- The disk: what lasts behind a flush, and behind the machine's going down. -/
import Derived.Test.YtfodboooopkheaaDisk
namespace Go.Proofs.Ytfodboooopkheaa
open Go.RowKit

/-! ### What was written last, so many bytes of each, lasts -/
theorem own_form {w : World} {base : Nat} {e : TypeId} {size n : Nat} {v : Value} {xs : List Value} (h : w.ownsRow base e size v n xs) : ∃ a c, v = .slice a n c := by
  have hl := h.1
  rcases h.2 with ⟨rfl, h0⟩ | ⟨g', cap, cur, rfl, _⟩
  · subst h0; exact ⟨_, _, rfl⟩
  · exact ⟨_, _, rfl⟩
theorem getI_of_nodup {α : Type} {f : List (Int × α)} (hd : (f.map (·.1)).Nodup) {i : Nat} {q : Int × α} (h : f[i]? = some q) : getI f q.1 = some q.2 := by
  induction f generalizing i with
  | nil => simp at h
  | cons p r ih =>
    simp only [List.map_cons, List.nodup_cons] at hd
    cases i with
    | zero => simp at h; subst h; simp [getI]
    | succ i =>
      simp at h
      have hne : q.1 ≠ p.1 := fun e => hd.1 (by rw [← e]; exact List.mem_map_of_mem (List.mem_of_getElem? h))
      simp only [getI, hne, if_false]
      exact ih hd.2 h
/-- the bytes that last, once so many of each of the first blocks that were written were laid over them -/
def layN (k : Nat → Nat) (f : List (Int × List Int)) (dur : List Int) : Nat → List Int
  | 0 => dur
  | i + 1 => match f[i]? with
    | some q => over (layN k f dur i) (64 * q.1.toNat) (q.2.take (k i))
    | none => layN k f dur i
theorem byt_layN {k : Nat → Nat} {f : List (Int × List Int)} {dur : List Int} (hd : Byt dur) (hf : ∀ q ∈ f, Byt q.2) : ∀ i, Byt (layN k f dur i)
  | 0 => hd
  | i + 1 => by
    simp only [layN]
    split
    · rename_i q hq
      exact (byt_layN hd hf i).over ((hf q (List.mem_of_getElem? hq)).take _) _
    · exact byt_layN hd hf i
theorem len_layN {k : Nat → Nat} {f : List (Int × List Int)} {dur : List Int} {n : Nat} (hd : dur.length = 64 * n) (hf : ∀ q ∈ f, 0 ≤ q.1 ∧ q.1 < (n : Int) ∧ q.2.length = 64) : ∀ i, (layN k f dur i).length = 64 * n
  | 0 => hd
  | i + 1 => by
    simp only [layN]
    split
    · rename_i q hq
      have ih := len_layN (k := k) hd hf i
      have h := hf q (List.mem_of_getElem? hq)
      rw [length_over, ih]
      simp [ih]
      omega
    · exact len_layN hd hf i

def SettleAt71 (w : World) (p : DP) (s : DS) (k : Nat → Nat) (i : Nat) (wr : World) : Prop :=
  Disk wr p { s with dur := layN k s.fresh s.dur i } ∧ Kept w wr fun x => x = p.bl
set_option maxRecDepth 100000 in
set_option maxHeartbeats 1000000 in
theorem settle_71 (p : DP) (s : DS) (k : Nat → Nat) (m : Nat → Int) (w : World) (h : Disk w p s) (hk : ∀ i, ((k i : Nat) : Int) = min (max (m i) 0) 64)
    (hmany : ∀ (i : Nat) (wr : World), i < s.fresh.length → Kept w wr (fun x => x = p.bl) → Calls Try.prog 71 #[.int .i64 i] wr fun e w' => e = .returned (.int .i64 (m i)) ∧ wr = w') :
    Calls Try.prog 70 #[.pointer (some ⟨p.bd, 0, none⟩), .func (.func 71) #[] #[]] w fun e w' => e = .returned (.tuple #[]) ∧ ∃ p', Step w p w' p' { s with dur := layN k s.fresh s.dur s.fresh.length, fresh := [] } := by
  obtain ⟨bd, bl, bm, ord⟩ := p
  obtain ⟨a, c, hord⟩ := own_form h.ord
  simp only at hord
  subst hord
  have H := Lib.hid h
  have HM := Lib.hid hmany
  have HK := Lib.hid hk
  have hfew := h.few
  obtain ⟨c0, c1, c2, c3⟩ := h.cells
  simp only at c0 c1 c2 c3
  clear c0 c1 c3 h hmany hk
  go_enter Try.func70, Try.ntmps70
  go_wp2
  go_loopw [12] (fun t wr => ∃ i : Nat, i ≤ s.fresh.length ∧ t = .int .i64 i ∧ SettleAt71 w ⟨bd, bl, bm, .slice a s.fresh.length c⟩ s k i wr) (fun t _ => s.fresh.length - (intOf t).toNat)
  case atStart => exact ⟨0, Nat.zero_le _, rfl, H.out, Kept.refl _ _⟩
  case round =>
    obtain ⟨i, hi, rfl, hs⟩ := hrel
    by_cases hlt : i < s.fresh.length
    · obtain ⟨q, hq⟩ : ∃ q, s.fresh[i]? = some q := ⟨_, List.getElem?_eq_getElem hlt⟩
      have hqk := H.out.keys q (List.mem_of_getElem? hq)
      have G := Lib.hid (show getI s.ents q.1 = some (.agg (U8 q.2)) by rw [get_ents, getI_of_nodup H.out.nd hq]; rfl)
      have HS := Lib.hid (show (Try.prog.info? 38).map (·.size) = some (U8 q.2).size by rw [size_U8, hqk.2.2.1]; exact size38)
      have D := Lib.hid hs.1
      have KP := Lib.hid hs.2
      have Q := Lib.hid hq
      obtain ⟨d0, d1, d2, d3⟩ := hs.1.cells
      obtain ⟨g, cap, hg, _, hglt⟩ := hs.1.ord.form (by show 0 < s.fresh.length; omega)
      simp only [Value.slice.injEq] at hg
      obtain ⟨rfl, _, rfl⟩ := hg
      have co : wr.cell? ⟨g, i, none⟩ = some (.int .i64 q.1) := by
        have := hs.1.ord.cells (g := g) rfl i (.int .i64 q.1) (by simp [hq])
        rw [add_at] at this
        simpa using this
      have hki := HK.out i
      have hnh : ∀ x, wr.heap.size ≤ x → ¬ (⟨bd, bl, bm, .slice (some ⟨g, 0, none⟩) s.fresh.length c⟩ : DP).has x := fun x hx hx' => by have := D.out.lt _ hx'; omega
      simp only at d0 d1 d2 d3
      clear d0 d2 d3 hs hq
      have hlq : q.2.length = 64 := hqk.2.2.1
      have hcs : ∀ w2 : World, Blk w2 wr.heap.size 38 (U8 q.2) → ∀ j, (hj : j < (q.2.take (k i)).length) → w2.cell? ((⟨wr.heap.size, 0, none⟩ : Addr).add j) = some (.int .u8 (q.2.take (k i))[j]) := by
        intro w2 g2 j hj
        have h1 : j < q.2.length := by simp at hj; omega
        rw [add_at, g2.cell, Nat.zero_add, get_U8_lt _ _ h1]
        simp
      have hcf : 64 * q.1.toNat + (q.2.take (k i)).length ≤ (layN k s.fresh s.dur i).length := by
        have := D.out.len
        simp only at this
        rw [this]
        have := hqk.2.1
        have := hqk.1
        simp
        omega
      by_cases hm1 : m i < 0
      · have hk0 : k i = 0 := by omega
        have HC := Lib.hid (show ∀ w2 : World, Kept w w2 (fun x => x = bl) → Calls Try.prog 71 #[.int .i64 i] w2 fun e w' => e = .returned (.int .i64 (m i)) ∧ w2 = w' from fun w2 hw => HM.out i w2 hlt hw)
        have hcl : (q.2.take (k i)).length = Nat.min 0 64 := by simp [hk0]
        go_wp2_with (first
          | (refine wpList_lookup_I rfl _ _ 76 _ rfl 3 38 .i64 (.agg (U8 Z64)) Try.underlying76 Try.underlying3 (run_zero38 _) bm s.ents q.1 rfl rfl D.out.map ?_; simp only [G.out, Option.getD_some, if_false, Bool.false_eq_true])
          | (refine wpList_new rfl 38 rfl _ run_zero38 wr.heap.size rfl ?_; intro w1 g0 hs1 hb1; have g1 : Blk w1 wr.heap.size 38 (U8 Z64) := g0; clear g0)
          | (refine wpList_store_blk rfl 38 _ _ rfl wr.heap.size 38 _ (U8 q.2) rfl rfl g1 (by rw [size_U8, size_U8, hqk.2.2.1, len_Z64]) HS.out (one_U8 _) ?_; intro w2 g2 ho2
             have b2 : Kept wr w2 fun _ => False := Only.kept (Kept.below hb1) ho2 (.inr (Nat.le_refl _))
             have D2 := Lib.hid (D.out.below b2.toBelow)
             have K2 := Lib.hid (KP.out.trans (G := fun _ => False) b2 (fun _ _ x => x.elim))
             have B2 := Lib.hid b2
             clear b2)
          | (go_at_call 53; refine (place_any _ _ _ _ D2.out hqk.1 hqk.2.1).mono ?_; rintro e w' ⟨rfl, rfl⟩)
          | (go_at_call 71; refine (HC.out _ K2.out).mono ?_; rintro e w' ⟨rfl, rfl⟩)
          | (refine wpList_copy_U8 rfl (.tmp 25) (.tmp 31) 22 22 rfl 5 Try.underlying22 (by kernel_rfl) bl (64 * q.1.toNat) 64 64 ⟨wr.heap.size, 0, none⟩ 0 64 rfl rfl 5 (layN k s.fresh s.dur i) (q.2.take (k i)) D2.out.lasts hcl (hcs w2 g2) hcf ?_; intro w3 l3 ho3))
        have D3 := Lib.hid (show Disk w3 ⟨bd, bl, bm, .slice (some ⟨g, 0, none⟩) s.fresh.length c⟩ { s with dur := layN k s.fresh s.dur (i + 1) } from by
          have e : layN k s.fresh s.dur (i + 1) = over (layN k s.fresh s.dur i) (64 * q.1.toNat) (q.2.take (k i)) := by simp only [layN, Q.out]
          rw [e]
          have hne1 : bd ≠ bl := Blk.ne_ D2.out.head D2.out.lasts (by decide)
          have hne2 : bm ≠ bl := D2.out.map.ne_blk D2.out.lasts
          refine ⟨ho3.blk D2.out.head hne1, l3, ?_, D2.out.byt.over ((hqk.2.2.2).take _) _, D2.out.map.only ho3 hne2, ?_, D2.out.keys, D2.out.nd, D2.out.nmax⟩
          · rw [length_over _ _ _ hcf]; exact D2.out.len
          · exact own_kept (F := fun x => x = bl) D2.out.ord (Only.kept (Kept.refl _ _) ho3 (.inl rfl)) (fun x hx e => own_blk_ne D2.out.ord D2.out.lasts (by decide) (by rw [hx, e])))
        have K3 := Lib.hid (Only.kept K2.out ho3 (.inl rfl))
        go_wp2
        go_roundw
        case rel => exact ⟨i + 1, by omega, by go_num, D3.out, K3.out⟩
        case measure => simp [intOf]; omega
      · by_cases hm2 : 64 < m i
        · have hk0 : k i = 64 := by omega
          have HC := Lib.hid (show ∀ w2 : World, Kept w w2 (fun x => x = bl) → Calls Try.prog 71 #[.int .i64 i] w2 fun e w' => e = .returned (.int .i64 (m i)) ∧ w2 = w' from fun w2 hw => HM.out i w2 hlt hw)
          have hcl : (q.2.take (k i)).length = Nat.min 64 64 := by rw [hk0]; simp [hlq]
          go_wp2_with (first
            | (refine wpList_lookup_I rfl _ _ 76 _ rfl 3 38 .i64 (.agg (U8 Z64)) Try.underlying76 Try.underlying3 (run_zero38 _) bm s.ents q.1 rfl rfl D.out.map ?_; simp only [G.out, Option.getD_some, if_false, Bool.false_eq_true])
            | (refine wpList_new rfl 38 rfl _ run_zero38 wr.heap.size rfl ?_; intro w1 g0 hs1 hb1; have g1 : Blk w1 wr.heap.size 38 (U8 Z64) := g0; clear g0)
            | (refine wpList_store_blk rfl 38 _ _ rfl wr.heap.size 38 _ (U8 q.2) rfl rfl g1 (by rw [size_U8, size_U8, hqk.2.2.1, len_Z64]) HS.out (one_U8 _) ?_; intro w2 g2 ho2
               have b2 : Kept wr w2 fun _ => False := Only.kept (Kept.below hb1) ho2 (.inr (Nat.le_refl _))
               have D2 := Lib.hid (D.out.below b2.toBelow)
               have K2 := Lib.hid (KP.out.trans (G := fun _ => False) b2 (fun _ _ x => x.elim))
               have B2 := Lib.hid b2
               clear b2)
            | (go_at_call 53; refine (place_any _ _ _ _ D2.out hqk.1 hqk.2.1).mono ?_; rintro e w' ⟨rfl, rfl⟩)
            | (go_at_call 71; refine (HC.out _ K2.out).mono ?_; rintro e w' ⟨rfl, rfl⟩)
            | (refine wpList_copy_U8 rfl (.tmp 25) (.tmp 31) 22 22 rfl 5 Try.underlying22 (by kernel_rfl) bl (64 * q.1.toNat) 64 64 ⟨wr.heap.size, 0, none⟩ 64 64 rfl rfl 5 (layN k s.fresh s.dur i) (q.2.take (k i)) D2.out.lasts hcl (hcs w2 g2) hcf ?_; intro w3 l3 ho3))
          have D3 := Lib.hid (show Disk w3 ⟨bd, bl, bm, .slice (some ⟨g, 0, none⟩) s.fresh.length c⟩ { s with dur := layN k s.fresh s.dur (i + 1) } from by
            have e : layN k s.fresh s.dur (i + 1) = over (layN k s.fresh s.dur i) (64 * q.1.toNat) (q.2.take (k i)) := by simp only [layN, Q.out]
            rw [e]
            have hne1 : bd ≠ bl := Blk.ne_ D2.out.head D2.out.lasts (by decide)
            have hne2 : bm ≠ bl := D2.out.map.ne_blk D2.out.lasts
            refine ⟨ho3.blk D2.out.head hne1, l3, ?_, D2.out.byt.over ((hqk.2.2.2).take _) _, D2.out.map.only ho3 hne2, ?_, D2.out.keys, D2.out.nd, D2.out.nmax⟩
            · rw [length_over _ _ _ hcf]; exact D2.out.len
            · exact own_kept (F := fun x => x = bl) D2.out.ord (Only.kept (Kept.refl _ _) ho3 (.inl rfl)) (fun x hx e => own_blk_ne D2.out.ord D2.out.lasts (by decide) (by rw [hx, e])))
          have K3 := Lib.hid (Only.kept K2.out ho3 (.inl rfl))
          go_wp2
          go_roundw
          case rel => exact ⟨i + 1, by omega, by go_num, D3.out, K3.out⟩
          case measure => simp [intOf]; omega
        · have hmm : m i = ((k i : Nat) : Int) := by omega
          have HC := Lib.hid (show ∀ w2 : World, Kept w w2 (fun x => x = bl) → Calls Try.prog 71 #[.int .i64 i] w2 fun e w' => e = .returned (.int .i64 ((k i : Nat) : Int)) ∧ w2 = w' from fun w2 hw => by
            have := HM.out i w2 hlt hw
            rwa [hmm] at this)
          have hk1 : ((k i : Nat) : Int) ≤ 64 := by omega
          have hk2 : ¬ ((k i : Nat) : Int) < 0 := by omega
          have hk3 : ¬ (64 : Int) < ((k i : Nat) : Int) := by omega
          have hcl : (q.2.take (k i)).length = Nat.min (k i) 64 := by simp [hlq]
          clear hki hmm hm1 hm2
          go_wp2_with (first
            | (refine wpList_lookup_I rfl _ _ 76 _ rfl 3 38 .i64 (.agg (U8 Z64)) Try.underlying76 Try.underlying3 (run_zero38 _) bm s.ents q.1 rfl rfl D.out.map ?_; simp only [G.out, Option.getD_some, if_false, Bool.false_eq_true])
            | (refine wpList_new rfl 38 rfl _ run_zero38 wr.heap.size rfl ?_; intro w1 g0 hs1 hb1; have g1 : Blk w1 wr.heap.size 38 (U8 Z64) := g0; clear g0)
            | (refine wpList_store_blk rfl 38 _ _ rfl wr.heap.size 38 _ (U8 q.2) rfl rfl g1 (by rw [size_U8, size_U8, hqk.2.2.1, len_Z64]) HS.out (one_U8 _) ?_; intro w2 g2 ho2
               have b2 : Kept wr w2 fun _ => False := Only.kept (Kept.below hb1) ho2 (.inr (Nat.le_refl _))
               have D2 := Lib.hid (D.out.below b2.toBelow)
               have K2 := Lib.hid (KP.out.trans (G := fun _ => False) b2 (fun _ _ x => x.elim))
               have B2 := Lib.hid b2
               clear b2)
            | (go_at_call 53; refine (place_any _ _ _ _ D2.out hqk.1 hqk.2.1).mono ?_; rintro e w' ⟨rfl, rfl⟩)
            | (go_at_call 71; refine (HC.out _ K2.out).mono ?_; rintro e w' ⟨rfl, rfl⟩)
            | (refine wpList_copy_U8 rfl (.tmp 25) (.tmp 31) 22 22 rfl 5 Try.underlying22 (by kernel_rfl) bl (64 * q.1.toNat) 64 64 ⟨wr.heap.size, 0, none⟩ (k i) 64 rfl rfl 5 (layN k s.fresh s.dur i) (q.2.take (k i)) D2.out.lasts hcl (hcs w2 g2) hcf ?_; intro w3 l3 ho3))
          have D3 := Lib.hid (show Disk w3 ⟨bd, bl, bm, .slice (some ⟨g, 0, none⟩) s.fresh.length c⟩ { s with dur := layN k s.fresh s.dur (i + 1) } from by
            have e : layN k s.fresh s.dur (i + 1) = over (layN k s.fresh s.dur i) (64 * q.1.toNat) (q.2.take (k i)) := by simp only [layN, Q.out]
            rw [e]
            have hne1 : bd ≠ bl := Blk.ne_ D2.out.head D2.out.lasts (by decide)
            have hne2 : bm ≠ bl := D2.out.map.ne_blk D2.out.lasts
            refine ⟨ho3.blk D2.out.head hne1, l3, ?_, D2.out.byt.over ((hqk.2.2.2).take _) _, D2.out.map.only ho3 hne2, ?_, D2.out.keys, D2.out.nd, D2.out.nmax⟩
            · rw [length_over _ _ _ hcf]; exact D2.out.len
            · exact own_kept (F := fun x => x = bl) D2.out.ord (Only.kept (Kept.refl _ _) ho3 (.inl rfl)) (fun x hx e => own_blk_ne D2.out.ord D2.out.lasts (by decide) (by rw [hx, e])))
          have K3 := Lib.hid (Only.kept K2.out ho3 (.inl rfl))
          go_wp2
          go_roundw
          case rel => exact ⟨i + 1, by omega, by go_num, D3.out, K3.out⟩
          case measure => simp [intOf]; omega
    · have hie : i = s.fresh.length := by omega
      subst hie
      have D := Lib.hid hs.1
      have KP := Lib.hid hs.2
      obtain ⟨d0, d1, d2, d3⟩ := hs.1.cells
      simp only at d0 d1 d2 d3
      clear d0 d2 d3 hs
      go_wp2_with (first
        | (refine wpList_clear_I rfl _ 76 rfl 3 38 Try.underlying76 bm s.ents rfl D.out.map ?_
           intro w1 hm1 ho1
           have hd1 : Blk w1 bd 78 (diskHead ⟨bd, bl, bm, .slice a s.fresh.length c⟩ s) := ho1.blk D.out.head (Ne.symm (D.out.map.ne_blk D.out.head))
           have M1 := Lib.hid hm1
           have D1 := Lib.hid hd1
           clear hm1 hd1)
        | (refine wpList_store_cell rfl 57 _ _ rfl bd 2 78 _ (.slice none 0 0) rfl rfl D1.out (by show 2 < 4; decide) (by kernel_rfl) rfl rfl ?_
           intro w2 hd2 ho2))
      go_end0
      have l1 : Blk w1 bl 5 (U8 (layN k s.fresh s.dur s.fresh.length)) := ho1.blk D.out.lasts (Ne.symm (D.out.map.ne_blk D.out.lasts))
      refine ⟨rfl, ⟨bd, bl, bm, .slice none 0 0⟩, ⟨hd2, ho2.blk l1 (Blk.ne_ l1 D1.out (by decide)), D.out.len, D.out.byt, M1.out.only ho2 (M1.out.ne_blk D1.out), World.ownsRow_nil _ _ _ _, (by intro q hq; cases hq), List.nodup_nil, D.out.nmax⟩, rfl, ?_, ?_⟩
      · exact Only.kept (Only.kept (KP.out.mono (G := DP.has ⟨bd, bl, bm, .slice a s.fresh.length c⟩) (fun x _ e => .inr (.inl e))) ho1 (.inl (.inr (.inr (.inl rfl))))) ho2 (.inl (.inl rfl))
      · rintro x (rfl | rfl | rfl | hx)
        · exact .inl (.inl rfl)
        · exact .inl (.inr (.inl rfl))
        · exact .inl (.inr (.inr (.inl rfl)))
        · cases hx

def SettleAt72 (w : World) (p : DP) (s : DS) (k : Nat → Nat) (i : Nat) (wr : World) : Prop :=
  Disk wr p { s with dur := layN k s.fresh s.dur i } ∧ Kept w wr fun x => x = p.bl
set_option maxRecDepth 100000 in
set_option maxHeartbeats 1000000 in
theorem settle_72 (p : DP) (s : DS) (k : Nat → Nat) (m : Nat → Int) (fb : Nat) (w : World) (h : Disk w p s) (hk : ∀ i, ((k i : Nat) : Int) = min (max (m i) 0) 64)
    (hmany : ∀ (i : Nat) (wr : World), i < s.fresh.length → Kept w wr (fun x => x = p.bl) → Calls Try.prog 72 #[.int .i64 i, .pointer (some ⟨fb, 0, none⟩)] wr fun e w' => e = .returned (.int .i64 (m i)) ∧ wr = w') :
    Calls Try.prog 70 #[.pointer (some ⟨p.bd, 0, none⟩), .func (.func 72) #[] #[.pointer (some ⟨fb, 0, none⟩)]] w fun e w' => e = .returned (.tuple #[]) ∧ ∃ p', Step w p w' p' { s with dur := layN k s.fresh s.dur s.fresh.length, fresh := [] } := by
  obtain ⟨bd, bl, bm, ord⟩ := p
  obtain ⟨a, c, hord⟩ := own_form h.ord
  simp only at hord
  subst hord
  have H := Lib.hid h
  have HM := Lib.hid hmany
  have HK := Lib.hid hk
  have hfew := h.few
  obtain ⟨c0, c1, c2, c3⟩ := h.cells
  simp only at c0 c1 c2 c3
  clear c0 c1 c3 h hmany hk
  go_enter Try.func70, Try.ntmps70
  go_wp2
  go_loopw [12] (fun t wr => ∃ i : Nat, i ≤ s.fresh.length ∧ t = .int .i64 i ∧ SettleAt72 w ⟨bd, bl, bm, .slice a s.fresh.length c⟩ s k i wr) (fun t _ => s.fresh.length - (intOf t).toNat)
  case atStart => exact ⟨0, Nat.zero_le _, rfl, H.out, Kept.refl _ _⟩
  case round =>
    obtain ⟨i, hi, rfl, hs⟩ := hrel
    by_cases hlt : i < s.fresh.length
    · obtain ⟨q, hq⟩ : ∃ q, s.fresh[i]? = some q := ⟨_, List.getElem?_eq_getElem hlt⟩
      have hqk := H.out.keys q (List.mem_of_getElem? hq)
      have G := Lib.hid (show getI s.ents q.1 = some (.agg (U8 q.2)) by rw [get_ents, getI_of_nodup H.out.nd hq]; rfl)
      have HS := Lib.hid (show (Try.prog.info? 38).map (·.size) = some (U8 q.2).size by rw [size_U8, hqk.2.2.1]; exact size38)
      have D := Lib.hid hs.1
      have KP := Lib.hid hs.2
      have Q := Lib.hid hq
      obtain ⟨d0, d1, d2, d3⟩ := hs.1.cells
      obtain ⟨g, cap, hg, _, hglt⟩ := hs.1.ord.form (by show 0 < s.fresh.length; omega)
      simp only [Value.slice.injEq] at hg
      obtain ⟨rfl, _, rfl⟩ := hg
      have co : wr.cell? ⟨g, i, none⟩ = some (.int .i64 q.1) := by
        have := hs.1.ord.cells (g := g) rfl i (.int .i64 q.1) (by simp [hq])
        rw [add_at] at this
        simpa using this
      have hki := HK.out i
      have hnh : ∀ x, wr.heap.size ≤ x → ¬ (⟨bd, bl, bm, .slice (some ⟨g, 0, none⟩) s.fresh.length c⟩ : DP).has x := fun x hx hx' => by have := D.out.lt _ hx'; omega
      simp only at d0 d1 d2 d3
      clear d0 d2 d3 hs hq
      have hlq : q.2.length = 64 := hqk.2.2.1
      have hcs : ∀ w2 : World, Blk w2 wr.heap.size 38 (U8 q.2) → ∀ j, (hj : j < (q.2.take (k i)).length) → w2.cell? ((⟨wr.heap.size, 0, none⟩ : Addr).add j) = some (.int .u8 (q.2.take (k i))[j]) := by
        intro w2 g2 j hj
        have h1 : j < q.2.length := by simp at hj; omega
        rw [add_at, g2.cell, Nat.zero_add, get_U8_lt _ _ h1]
        simp
      have hcf : 64 * q.1.toNat + (q.2.take (k i)).length ≤ (layN k s.fresh s.dur i).length := by
        have := D.out.len
        simp only at this
        rw [this]
        have := hqk.2.1
        have := hqk.1
        simp
        omega
      by_cases hm1 : m i < 0
      · have hk0 : k i = 0 := by omega
        have HC := Lib.hid (show ∀ w2 : World, Kept w w2 (fun x => x = bl) → Calls Try.prog 72 #[.int .i64 i, .pointer (some ⟨fb, 0, none⟩)] w2 fun e w' => e = .returned (.int .i64 (m i)) ∧ w2 = w' from fun w2 hw => HM.out i w2 hlt hw)
        have hcl : (q.2.take (k i)).length = Nat.min 0 64 := by simp [hk0]
        go_wp2_with (first
          | (refine wpList_lookup_I rfl _ _ 76 _ rfl 3 38 .i64 (.agg (U8 Z64)) Try.underlying76 Try.underlying3 (run_zero38 _) bm s.ents q.1 rfl rfl D.out.map ?_; simp only [G.out, Option.getD_some, if_false, Bool.false_eq_true])
          | (refine wpList_new rfl 38 rfl _ run_zero38 wr.heap.size rfl ?_; intro w1 g0 hs1 hb1; have g1 : Blk w1 wr.heap.size 38 (U8 Z64) := g0; clear g0)
          | (refine wpList_store_blk rfl 38 _ _ rfl wr.heap.size 38 _ (U8 q.2) rfl rfl g1 (by rw [size_U8, size_U8, hqk.2.2.1, len_Z64]) HS.out (one_U8 _) ?_; intro w2 g2 ho2
             have b2 : Kept wr w2 fun _ => False := Only.kept (Kept.below hb1) ho2 (.inr (Nat.le_refl _))
             have D2 := Lib.hid (D.out.below b2.toBelow)
             have K2 := Lib.hid (KP.out.trans (G := fun _ => False) b2 (fun _ _ x => x.elim))
             have B2 := Lib.hid b2
             clear b2)
          | (go_at_call 53; refine (place_any _ _ _ _ D2.out hqk.1 hqk.2.1).mono ?_; rintro e w' ⟨rfl, rfl⟩)
          | (go_at_call 72; refine (HC.out _ K2.out).mono ?_; rintro e w' ⟨rfl, rfl⟩)
          | (refine wpList_copy_U8 rfl (.tmp 25) (.tmp 31) 22 22 rfl 5 Try.underlying22 (by kernel_rfl) bl (64 * q.1.toNat) 64 64 ⟨wr.heap.size, 0, none⟩ 0 64 rfl rfl 5 (layN k s.fresh s.dur i) (q.2.take (k i)) D2.out.lasts hcl (hcs w2 g2) hcf ?_; intro w3 l3 ho3))
        have D3 := Lib.hid (show Disk w3 ⟨bd, bl, bm, .slice (some ⟨g, 0, none⟩) s.fresh.length c⟩ { s with dur := layN k s.fresh s.dur (i + 1) } from by
          have e : layN k s.fresh s.dur (i + 1) = over (layN k s.fresh s.dur i) (64 * q.1.toNat) (q.2.take (k i)) := by simp only [layN, Q.out]
          rw [e]
          have hne1 : bd ≠ bl := Blk.ne_ D2.out.head D2.out.lasts (by decide)
          have hne2 : bm ≠ bl := D2.out.map.ne_blk D2.out.lasts
          refine ⟨ho3.blk D2.out.head hne1, l3, ?_, D2.out.byt.over ((hqk.2.2.2).take _) _, D2.out.map.only ho3 hne2, ?_, D2.out.keys, D2.out.nd, D2.out.nmax⟩
          · rw [length_over _ _ _ hcf]; exact D2.out.len
          · exact own_kept (F := fun x => x = bl) D2.out.ord (Only.kept (Kept.refl _ _) ho3 (.inl rfl)) (fun x hx e => own_blk_ne D2.out.ord D2.out.lasts (by decide) (by rw [hx, e])))
        have K3 := Lib.hid (Only.kept K2.out ho3 (.inl rfl))
        go_wp2
        go_roundw
        case rel => exact ⟨i + 1, by omega, by go_num, D3.out, K3.out⟩
        case measure => simp [intOf]; omega
      · by_cases hm2 : 64 < m i
        · have hk0 : k i = 64 := by omega
          have HC := Lib.hid (show ∀ w2 : World, Kept w w2 (fun x => x = bl) → Calls Try.prog 72 #[.int .i64 i, .pointer (some ⟨fb, 0, none⟩)] w2 fun e w' => e = .returned (.int .i64 (m i)) ∧ w2 = w' from fun w2 hw => HM.out i w2 hlt hw)
          have hcl : (q.2.take (k i)).length = Nat.min 64 64 := by rw [hk0]; simp [hlq]
          go_wp2_with (first
            | (refine wpList_lookup_I rfl _ _ 76 _ rfl 3 38 .i64 (.agg (U8 Z64)) Try.underlying76 Try.underlying3 (run_zero38 _) bm s.ents q.1 rfl rfl D.out.map ?_; simp only [G.out, Option.getD_some, if_false, Bool.false_eq_true])
            | (refine wpList_new rfl 38 rfl _ run_zero38 wr.heap.size rfl ?_; intro w1 g0 hs1 hb1; have g1 : Blk w1 wr.heap.size 38 (U8 Z64) := g0; clear g0)
            | (refine wpList_store_blk rfl 38 _ _ rfl wr.heap.size 38 _ (U8 q.2) rfl rfl g1 (by rw [size_U8, size_U8, hqk.2.2.1, len_Z64]) HS.out (one_U8 _) ?_; intro w2 g2 ho2
               have b2 : Kept wr w2 fun _ => False := Only.kept (Kept.below hb1) ho2 (.inr (Nat.le_refl _))
               have D2 := Lib.hid (D.out.below b2.toBelow)
               have K2 := Lib.hid (KP.out.trans (G := fun _ => False) b2 (fun _ _ x => x.elim))
               have B2 := Lib.hid b2
               clear b2)
            | (go_at_call 53; refine (place_any _ _ _ _ D2.out hqk.1 hqk.2.1).mono ?_; rintro e w' ⟨rfl, rfl⟩)
            | (go_at_call 72; refine (HC.out _ K2.out).mono ?_; rintro e w' ⟨rfl, rfl⟩)
            | (refine wpList_copy_U8 rfl (.tmp 25) (.tmp 31) 22 22 rfl 5 Try.underlying22 (by kernel_rfl) bl (64 * q.1.toNat) 64 64 ⟨wr.heap.size, 0, none⟩ 64 64 rfl rfl 5 (layN k s.fresh s.dur i) (q.2.take (k i)) D2.out.lasts hcl (hcs w2 g2) hcf ?_; intro w3 l3 ho3))
          have D3 := Lib.hid (show Disk w3 ⟨bd, bl, bm, .slice (some ⟨g, 0, none⟩) s.fresh.length c⟩ { s with dur := layN k s.fresh s.dur (i + 1) } from by
            have e : layN k s.fresh s.dur (i + 1) = over (layN k s.fresh s.dur i) (64 * q.1.toNat) (q.2.take (k i)) := by simp only [layN, Q.out]
            rw [e]
            have hne1 : bd ≠ bl := Blk.ne_ D2.out.head D2.out.lasts (by decide)
            have hne2 : bm ≠ bl := D2.out.map.ne_blk D2.out.lasts
            refine ⟨ho3.blk D2.out.head hne1, l3, ?_, D2.out.byt.over ((hqk.2.2.2).take _) _, D2.out.map.only ho3 hne2, ?_, D2.out.keys, D2.out.nd, D2.out.nmax⟩
            · rw [length_over _ _ _ hcf]; exact D2.out.len
            · exact own_kept (F := fun x => x = bl) D2.out.ord (Only.kept (Kept.refl _ _) ho3 (.inl rfl)) (fun x hx e => own_blk_ne D2.out.ord D2.out.lasts (by decide) (by rw [hx, e])))
          have K3 := Lib.hid (Only.kept K2.out ho3 (.inl rfl))
          go_wp2
          go_roundw
          case rel => exact ⟨i + 1, by omega, by go_num, D3.out, K3.out⟩
          case measure => simp [intOf]; omega
        · have hmm : m i = ((k i : Nat) : Int) := by omega
          have HC := Lib.hid (show ∀ w2 : World, Kept w w2 (fun x => x = bl) → Calls Try.prog 72 #[.int .i64 i, .pointer (some ⟨fb, 0, none⟩)] w2 fun e w' => e = .returned (.int .i64 ((k i : Nat) : Int)) ∧ w2 = w' from fun w2 hw => by
            have := HM.out i w2 hlt hw
            rwa [hmm] at this)
          have hk1 : ((k i : Nat) : Int) ≤ 64 := by omega
          have hk2 : ¬ ((k i : Nat) : Int) < 0 := by omega
          have hk3 : ¬ (64 : Int) < ((k i : Nat) : Int) := by omega
          have hcl : (q.2.take (k i)).length = Nat.min (k i) 64 := by simp [hlq]
          clear hki hmm hm1 hm2
          go_wp2_with (first
            | (refine wpList_lookup_I rfl _ _ 76 _ rfl 3 38 .i64 (.agg (U8 Z64)) Try.underlying76 Try.underlying3 (run_zero38 _) bm s.ents q.1 rfl rfl D.out.map ?_; simp only [G.out, Option.getD_some, if_false, Bool.false_eq_true])
            | (refine wpList_new rfl 38 rfl _ run_zero38 wr.heap.size rfl ?_; intro w1 g0 hs1 hb1; have g1 : Blk w1 wr.heap.size 38 (U8 Z64) := g0; clear g0)
            | (refine wpList_store_blk rfl 38 _ _ rfl wr.heap.size 38 _ (U8 q.2) rfl rfl g1 (by rw [size_U8, size_U8, hqk.2.2.1, len_Z64]) HS.out (one_U8 _) ?_; intro w2 g2 ho2
               have b2 : Kept wr w2 fun _ => False := Only.kept (Kept.below hb1) ho2 (.inr (Nat.le_refl _))
               have D2 := Lib.hid (D.out.below b2.toBelow)
               have K2 := Lib.hid (KP.out.trans (G := fun _ => False) b2 (fun _ _ x => x.elim))
               have B2 := Lib.hid b2
               clear b2)
            | (go_at_call 53; refine (place_any _ _ _ _ D2.out hqk.1 hqk.2.1).mono ?_; rintro e w' ⟨rfl, rfl⟩)
            | (go_at_call 72; refine (HC.out _ K2.out).mono ?_; rintro e w' ⟨rfl, rfl⟩)
            | (refine wpList_copy_U8 rfl (.tmp 25) (.tmp 31) 22 22 rfl 5 Try.underlying22 (by kernel_rfl) bl (64 * q.1.toNat) 64 64 ⟨wr.heap.size, 0, none⟩ (k i) 64 rfl rfl 5 (layN k s.fresh s.dur i) (q.2.take (k i)) D2.out.lasts hcl (hcs w2 g2) hcf ?_; intro w3 l3 ho3))
          have D3 := Lib.hid (show Disk w3 ⟨bd, bl, bm, .slice (some ⟨g, 0, none⟩) s.fresh.length c⟩ { s with dur := layN k s.fresh s.dur (i + 1) } from by
            have e : layN k s.fresh s.dur (i + 1) = over (layN k s.fresh s.dur i) (64 * q.1.toNat) (q.2.take (k i)) := by simp only [layN, Q.out]
            rw [e]
            have hne1 : bd ≠ bl := Blk.ne_ D2.out.head D2.out.lasts (by decide)
            have hne2 : bm ≠ bl := D2.out.map.ne_blk D2.out.lasts
            refine ⟨ho3.blk D2.out.head hne1, l3, ?_, D2.out.byt.over ((hqk.2.2.2).take _) _, D2.out.map.only ho3 hne2, ?_, D2.out.keys, D2.out.nd, D2.out.nmax⟩
            · rw [length_over _ _ _ hcf]; exact D2.out.len
            · exact own_kept (F := fun x => x = bl) D2.out.ord (Only.kept (Kept.refl _ _) ho3 (.inl rfl)) (fun x hx e => own_blk_ne D2.out.ord D2.out.lasts (by decide) (by rw [hx, e])))
          have K3 := Lib.hid (Only.kept K2.out ho3 (.inl rfl))
          go_wp2
          go_roundw
          case rel => exact ⟨i + 1, by omega, by go_num, D3.out, K3.out⟩
          case measure => simp [intOf]; omega
    · have hie : i = s.fresh.length := by omega
      subst hie
      have D := Lib.hid hs.1
      have KP := Lib.hid hs.2
      obtain ⟨d0, d1, d2, d3⟩ := hs.1.cells
      simp only at d0 d1 d2 d3
      clear d0 d2 d3 hs
      go_wp2_with (first
        | (refine wpList_clear_I rfl _ 76 rfl 3 38 Try.underlying76 bm s.ents rfl D.out.map ?_
           intro w1 hm1 ho1
           have hd1 : Blk w1 bd 78 (diskHead ⟨bd, bl, bm, .slice a s.fresh.length c⟩ s) := ho1.blk D.out.head (Ne.symm (D.out.map.ne_blk D.out.head))
           have M1 := Lib.hid hm1
           have D1 := Lib.hid hd1
           clear hm1 hd1)
        | (refine wpList_store_cell rfl 57 _ _ rfl bd 2 78 _ (.slice none 0 0) rfl rfl D1.out (by show 2 < 4; decide) (by kernel_rfl) rfl rfl ?_
           intro w2 hd2 ho2))
      go_end0
      have l1 : Blk w1 bl 5 (U8 (layN k s.fresh s.dur s.fresh.length)) := ho1.blk D.out.lasts (Ne.symm (D.out.map.ne_blk D.out.lasts))
      refine ⟨rfl, ⟨bd, bl, bm, .slice none 0 0⟩, ⟨hd2, ho2.blk l1 (Blk.ne_ l1 D1.out (by decide)), D.out.len, D.out.byt, M1.out.only ho2 (M1.out.ne_blk D1.out), World.ownsRow_nil _ _ _ _, (by intro q hq; cases hq), List.nodup_nil, D.out.nmax⟩, rfl, ?_, ?_⟩
      · exact Only.kept (Only.kept (KP.out.mono (G := DP.has ⟨bd, bl, bm, .slice a s.fresh.length c⟩) (fun x _ e => .inr (.inl e))) ho1 (.inl (.inr (.inr (.inl rfl))))) ho2 (.inl (.inl rfl))
      · rintro x (rfl | rfl | rfl | hx)
        · exact .inl (.inl rfl)
        · exact .inl (.inr (.inl rfl))
        · exact .inl (.inr (.inr (.inl rfl)))
        · cases hx

/-! ### Flush, Crash, Start -/
def DS.flushed (s : DS) : DS := { s with dur := layN (fun _ => 64) s.fresh s.dur s.fresh.length, fresh := [] }
theorem all64 (i : Nat) (w : World) : Calls Try.prog 71 #[.int .i64 i] w fun e w' => e = .returned (.int .i64 64) ∧ w = w' := by
  go_enter Try.func71, Try.ntmps71
  go_wp2
  go_ret
  exact ⟨rfl, rfl⟩
set_option maxRecDepth 100000 in
set_option maxHeartbeats 400000 in
theorem flush_ok (p : DP) (s : DS) (w : World) (h : Disk w p s) (hd : s.down = false) :
    Calls Try.prog 39 #[.pointer (some ⟨p.bd, 0, none⟩)] w fun e w' => e = .returned (.int .i64 0) ∧ ∃ p', Step w p w' p' s.flushed := by
  have H := Lib.hid h
  obtain ⟨c0, c1, c2, c3⟩ := h.cells
  rw [hd] at c3
  clear c0 c1 c2 h hd
  go_enter Try.func39, Try.ntmps39
  go_wp2_with (go_at_call 70; refine (settle_71 p s (fun _ => 64) (fun _ => 64) _ H.out (fun _ => rfl) (fun i wr _ _ => all64 i wr)).mono ?_; rintro e w1 ⟨rfl, hs⟩; have S1 := Lib.hid hs; clear hs)
  go_ret
  exact ⟨rfl, S1.out⟩
theorem Step.setDown {w w' : World} {p : DP} {s : DS} {b : Bool} (h : Disk w p s) (hd : Blk w' p.bd 78 ((diskHead p s).setIfInBounds 3 (.bool b))) (ho : Only w w' p.bd) : Step w p w' p { s with down := b } := by
  have n1 : p.bl ≠ p.bd := Blk.ne_ h.lasts h.head (by decide)
  have n2 : p.bm ≠ p.bd := h.map.ne_blk h.head
  exact ⟨⟨hd, ho.blk h.lasts n1, h.len, h.byt, h.map.only ho n2, own_kept (F := fun x => x = p.bd) h.ord (Only.kept (Kept.refl _ _) ho (.inl rfl)) (fun x hx e => own_blk_ne h.ord h.head (by decide) (by rw [hx, e])), h.keys, h.nd, h.nmax⟩,
    rfl, Only.kept (Kept.refl _ _) ho (.inl (.inl rfl)), fun _ hk => .inl hk⟩
/-- how many bytes of the i-th block last where the machine goes down with one fate -/
def fateOf (fate : Int) (i : Nat) : Int := if i = 0 then fate else 0
def DS.crashed (s : DS) (fate : Int) : DS := { s with dur := layN (fun i => (min (max (fateOf fate i) 0) 64).toNat) s.fresh s.dur s.fresh.length, fresh := [], down := true }
set_option maxRecDepth 100000 in
set_option maxHeartbeats 400000 in
theorem fate_any (fate : Int) (i fb g : Nat) (hi : i ≤ 4096) (w : World) (hb : Blk w fb 57 #[.slice (some ⟨g, 0, none⟩) 1 1]) (hg : Blk w g 3 #[.int .i64 fate]) :
    Calls Try.prog 72 #[.int .i64 i, .pointer (some ⟨fb, 0, none⟩)] w fun e w' => e = .returned (.int .i64 (fateOf fate i)) ∧ w = w' := by
  have c0 : w.cell? ⟨fb, 0, none⟩ = some (.slice (some ⟨g, 0, none⟩) 1 1) := by rw [hb.cell]; rfl
  have c1 : w.cell? ⟨g, 0, none⟩ = some (.int .i64 fate) := by rw [hg.cell]; rfl
  clear hb hg
  by_cases h : i = 0
  · subst h
    go_enter Try.func72, Try.ntmps72
    go_wp2
    go_ret
    exact ⟨rfl, rfl⟩
  · have h1 : ¬ ((i : Int) < 1) := by omega
    go_enter Try.func72, Try.ntmps72
    go_wp2
    go_ret
    exact ⟨by simp [fateOf, h], rfl⟩
set_option maxRecDepth 100000 in
set_option maxHeartbeats 400000 in
theorem crash_ok (p : DP) (s : DS) (fate : Int) (g : Nat) (w : World) (h : Disk w p s) (hd : s.down = false) (hg : Blk w g 3 #[.int .i64 fate]) (hn : ¬ p.has g) :
    Calls Try.prog 40 #[.pointer (some ⟨p.bd, 0, none⟩), .slice (some ⟨g, 0, none⟩) 1 1] w fun e w' => e = .returned (.tuple #[]) ∧ ∃ p', Step w p w' p' (s.crashed fate) := by
  have hb1 : Below w.heap.size w (w.alloc (.cells #[.slice (some ⟨g, 0, none⟩) 1 1] 57)) := (Below.refl _ _).alloc (Nat.le_refl _) _
  have hx1 : Blk (w.alloc (.cells #[.slice (some ⟨g, 0, none⟩) 1 1] 57)) w.heap.size 57 #[.slice (some ⟨g, 0, none⟩) 1 1] := Blk.new w 57 _
  have hg1 := hg.alloc (.cells #[.slice (some ⟨g, 0, none⟩) 1 1] 57)
  have H1 := Lib.hid (h.below hb1)
  have B1 := Lib.hid hb1
  have X1 := Lib.hid hx1
  have G1 := Lib.hid hg1
  have H := Lib.hid h
  have hfew := h.few
  obtain ⟨c0, c1, c2, c3⟩ := H1.out.cells
  rw [hd] at c3
  clear c0 c1 c2 h hd hb1 hx1 hg1 hg
  go_enter Try.func40, Try.ntmps40
  go_wp2_with (first
    | (go_at_call 70; refine (settle_72 p s (fun i => (min (max (fateOf fate i) 0) 64).toNat) (fateOf fate) w.heap.size _ H1.out (fun i => by omega) (fun i wr hi hk => fate_any fate i _ g (by omega) wr (hk.blk X1.out (fun e => Blk.ne_ X1.out H1.out.lasts (by decide) e)) (hk.blk G1.out (fun e => hn (.inr (.inl e)))))).mono ?_
       rintro e w1 ⟨rfl, p1, hs⟩
       have S1 := Lib.hid hs
       have hd1 := hs.disk.head
       have D1 := Lib.hid hd1
       clear hs hd1)
    | (refine wpList_store_cell rfl 4 _ _ rfl p.bd 3 78 _ (.bool true) rfl rfl (S1.out.bd ▸ D1.out) (by show 3 < 4; decide) (by kernel_rfl) rfl rfl ?_
       intro w2 hd2 ho2))
  go_end0
  have hbd := S1.out.bd
  refine ⟨rfl, p1, (Step.of_below H.out B1.out).trans (S1.out.trans (Step.setDown (b := true) S1.out.disk ?_ ?_))⟩
  · rw [hbd]; exact hd2
  · rw [hbd]; exact ho2
set_option maxRecDepth 100000 in
set_option maxHeartbeats 400000 in
theorem start_ok (p : DP) (s : DS) (w : World) (h : Disk w p s) :
    Calls Try.prog 41 #[.pointer (some ⟨p.bd, 0, none⟩)] w fun e w' => e = .returned (.tuple #[]) ∧ Step w p w' p { s with down := false } := by
  have H := Lib.hid h
  clear h
  go_enter Try.func41, Try.ntmps41
  go_wp2_with (refine wpList_store_cell rfl 4 _ _ rfl p.bd 3 78 _ (.bool false) rfl rfl H.out.head (by show 3 < 4; decide) (by kernel_rfl) rfl rfl ?_; intro w2 hd2 ho2)
  go_end0
  exact ⟨rfl, Step.setDown H.out hd2 ho2⟩
end Go.Proofs.Ytfodboooopkheaa
