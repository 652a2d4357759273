/- From a walk that answers true and leaves all that lay there as it was to a law's row; a boot among the arguments. -/
import Derived.Test.YtfodboooopkheaaBoth
import Derived.ProofKit
import Derived.Lib.SmallJoins
namespace Go.Proofs.Ytfodboooopkheaa
open Go.ChangeShapes Go.WideShapes Go.ChangeAt Go.RowKit

theorem Try.own : ownKnob Try.prog.godebug = none := by kernel_rfl
theorem Try.laidOut : laidOutB Try.prog = true := by kernel_rfl

section
variable {H : Type} {enc : TypeId × Value → H}
theorem post_below {P : Program} {f : Func} {s : ChangeSpec} {apart fresh handsOn again : Bool} {W W' : World} {args : Array Value} {v : Value} {ds gs : List (DataW H)} {before pa pv : List MemPlace}
    (hW : DataW.Whole enc P f.params.toList s.vars apart W args.toList ds gs before)
    (hres : ∀ (b : Nat) (sp : Nat → Bool) (hd : Bool), DataW.TrodAll enc P W' b sp hd f.resultTypes.toList (v.resultList f.resultTypes.size) (s.fn H (ds ++ gs)).results [])
    (hargs : ∀ sp : Nat → Bool, (∀ p ∈ before, sp p.block = true) → DataW.TrodAll enc P W' 0 sp true f.params.toList args.toList (s.fn H (ds ++ gs)).args pa)
    (hvars : ∀ sp : Nat → Bool, (∀ p ∈ before, sp p.block = true) → DataW.TrodVars enc P W' sp s.vars (s.fn H (ds ++ gs)).vars pv)
    (hps : before = pa ++ pv) (hb : Below W.heap.size W W')
    (hok : ∀ (j : Nat) (t : TypeId) (r : Value), f.resultTypes[j]? = some t → (v.resultList f.resultTypes.size)[j]? = some r → Value.okWide P W' .any 0 t r) :
    s.post enc P f apart fresh handsOn again W args v W' := by
  have hlt : ∀ p ∈ before, p.block < W.heap.size := fun p hp => hW.lt p hp
  have hold : ∀ p ∈ before, (fun b => decide (b < W.heap.size)) p.block = true := fun p hp => by simpa using hlt p hp
  refine ⟨ds, gs, before, [], pa, pv, hW, hres _ _ _, hargs _ hold, hvars _ hold, World.keptBut_mono (fun p hp => ⟨hp, ?_⟩) (hb.frame (· ∈ before)), fun _ => ?_⟩
  · rw [hps, List.mem_append] at hp
    exact Or.inr hp
  · obtain ⟨_, _, _, _, _, hz, hn⟩ := hW
    refine ⟨hok, _, _, ([] ++ pa) ++ pv, ⟨[] ++ pa, pv, trodAll_append (hargs _ (fun _ _ => rfl)) (hres _ _ _), hvars _ (fun _ _ => rfl), rfl, ?_, ?_⟩, ?_⟩
    · intro b off hp
      have hin : MemPlace.cell b off ∈ before := by rw [hps]; simpa using hp
      rw [hb.frozen (hlt _ hin)]
      exact hz b off hin
    · intro ha
      have := hn ha
      rw [hps] at this
      simpa using this
    · intro p hp _
      rw [hps]
      simpa using hp
/-- arguments read behind a call that left them alone as they read before -/
theorem trodAll_stays {P : Program} (hl : laidOutB P = true) {W W' : World} (hb : Below W.heap.size W W') (sp : Nat → Bool) : ∀ {ts : List TypeId} {vs : List Value} {ds : List (DataW H)} {ps : List MemPlace},
    (ts.all fun t => P.readableRec t && decide (t < P.types.size)) = true → DataW.TrodAll enc P W 0 (fun _ => true) true ts vs ds ps → (∀ p ∈ ps, p.block < W.heap.size) → (∀ p ∈ ps, sp p.block = true) → DataW.TrodAll enc P W' 0 sp true ts vs ds ps
  | [], vs, ds, ps, _, h, _, _ => by
    cases vs <;> cases ds <;> simp [DataW.TrodAll] at h ⊢
    exact h
  | t :: ts, vs, ds, ps, ht, h, hlt, hsp => by
    simp only [List.all_cons, Bool.and_eq_true, decide_eq_true_eq] at ht
    obtain ⟨v, vs', d, ds', p, q, rfl, rfl, rfl, h1, h2⟩ := trodAll_cons h
    exact ⟨p, q, WideElems.Trod_stays hl ht.1.1 ht.1.2 h1 (fun x hx => hb.same (hlt x (List.mem_append.2 (.inl hx)))) (fun x hx => hsp x (List.mem_append.2 (.inl hx))),
      trodAll_stays hl hb sp ht.2 h2 (fun x hx => hlt x (List.mem_append.2 (.inr hx))) (fun x hx => hsp x (List.mem_append.2 (.inr hx))), rfl⟩
set_option maxRecDepth 100000 in
theorem law_post {f : Func} {s : ChangeSpec} {apart fresh handsOn again : Bool} {W W' : World} {args : Array Value} {ds : List (DataW H)} {ps : List MemPlace}
    (hv : s.vars = []) (hf : f.resultTypes = #[4]) (hts : (f.params.toList.all fun t => Try.prog.readableRec t && decide (t < Try.prog.types.size)) = true)
    (hW : DataW.Whole enc Try.prog f.params.toList s.vars apart W args.toList ds [] ps) (hb : Below W.heap.size W W')
    (hs : (s.fn H (ds ++ [])).results = [.lit (.bool true)]) (ha : (s.fn H (ds ++ [])).args = ds) (hva : (s.fn H (ds ++ [])).vars = []) :
    s.post enc Try.prog f apart fresh handsOn again W args (.bool true) W' := by
  obtain ⟨p, q, hA, hV, rfl, hfz, hnd⟩ := hW
  have hW' : DataW.Whole enc Try.prog f.params.toList s.vars apart W args.toList ds [] (p ++ q) := ⟨p, q, hA, hV, rfl, hfz, hnd⟩
  have hV' := hV
  rw [hv] at hV'
  have hq : q = [] := hV'
  subst hq
  have hu4 : Try.prog.underlying 4 = some .bool := by kernel_rfl
  refine post_below (pa := p) (pv := []) hW' (fun b sp hd => ?_) (fun sp hsp => ?_) (fun sp hsp => ?_) rfl hb ?_
  · rw [hs, hf]
    refine ⟨[], [], ⟨1, ?_⟩, rfl, rfl⟩
    show DataW.trod enc Try.prog W' b sp hd 1 4 [.bool true] = _
    simp [DataW.trod, hu4]
  · rw [ha]
    exact trodAll_stays Try.laidOut hb sp hts hA (fun x hx => hW'.lt x (by simpa using hx)) (fun x hx => hsp x (by simpa using hx))
  · rw [hva, hv]
    exact rfl
  · exact ok_one hf rfl (okWide_bool_mk hu4 _)
end
section
variable {H : Type} {enc : TypeId × Value → H} {w : World} {base : Nat} {spare : Nat → Bool} {held : Bool}
/-- an array of bytes among cells -/
theorem trod_bytes {n fuel : Nat} {t : TypeId} {cs : List Value} {x : DataW H × List MemPlace} (ht : Try.prog.underlying t = some (.array n 5)) (h : DataW.trod enc Try.prog w base spare held fuel t cs = some x) (hc : Try.prog.cellsOf t = n) :
    ∃ l : List Int, cs = l.map (Value.int .u8) ∧ l.length = n ∧ Byt l := by
  have hc5 : Try.prog.cellsOf 5 = 1 := by kernel_rfl
  obtain ⟨xs, m, _, _, hl, hxl, hget⟩ := DataW.trod_array ht h
  rw [hc] at hl
  have key : ∀ i, i < n → ∃ z : Int, cs[i]? = some (.int .u8 z) ∧ 0 ≤ z ∧ z ≤ 255 := by
    intro i hi
    have h1 := hget i hi
    rw [hc5, Nat.mul_one, List.getElem?_eq_getElem (by omega)] at h1
    obtain ⟨z, hz, _, hwf⟩ := DataW.trod_int Try.underlying5 h1
    refine ⟨z, ?_, ?_⟩
    · have : ((cs.drop i).take 1)[0]? = some (.int .u8 z) := by rw [hz]; rfl
      rw [List.getElem?_take, if_pos (by omega), List.getElem?_drop] at this
      exact this
    · have hm : IntKind.u8.min = 0 := rfl
      have hM : IntKind.u8.max = 255 := rfl
      simp [Lit.wf, hm, hM] at hwf
      exact hwf
  refine ⟨cs.map fun v => match v with | .int _ z => z | _ => 0, ?_, by simp [hl], ?_⟩
  · rw [List.map_map]
    apply List.ext_getElem?
    intro i
    rw [List.getElem?_map]
    by_cases hi : i < n
    · obtain ⟨z, hz, _⟩ := key i hi
      rw [hz]; rfl
    · rw [List.getElem?_eq_none (by omega)]; rfl
  · intro z hz
    obtain ⟨v, hv, rfl⟩ := List.mem_map.1 hz
    obtain ⟨i, hi, hv⟩ := List.getElem_of_mem hv
    obtain ⟨y, hy, h0, h1⟩ := key i (by omega)
    rw [List.getElem?_eq_getElem hi, hv] at hy
    injection hy with hy
    subst hy
    exact ⟨h0, h1⟩
/-- a boot among cells -/
theorem trod_boot {fuel : Nat} {cs : List Value} {x : DataW H × List MemPlace} (h : DataW.trod enc Try.prog w base spare held fuel 31 cs = some x) : ∃ b : BT, cs.toArray = b.cells ∧ b.wf := by
  have hc31 : Try.prog.cellsOf 31 = 35 := by kernel_rfl
  have hc3 : Try.prog.cellsOf 3 = 1 := by kernel_rfl
  have hc2 : Try.prog.cellsOf 2 = 1 := by kernel_rfl
  have hc28 : Try.prog.cellsOf 28 = 32 := by kernel_rfl
  obtain ⟨y0, y1, y2, y3, n, _, hl, h0, h1, h2, h3⟩   := Joins.trod_struct4 Try.underlying31 h
  rw [hc31] at hl
  simp only [hc3, hc2, hc28] at h0 h1 h2 h3
  obtain ⟨z0, e0, _, w0⟩ := DataW.trod_int Try.underlying3 h0
  obtain ⟨z1, e1, _, w1⟩ := DataW.trod_int Try.underlying2 h1
  obtain ⟨z2, e2, _, w2⟩ := DataW.trod_int Try.underlying3 h2
  obtain ⟨l, e3, l3, b3⟩ := trod_bytes Try.underlying28 h3 hc28
  refine ⟨⟨z0, z1, z2, l⟩, ?_, ?_⟩
  · apply Array.toList_inj.1
    show cs = Value.int .i64 z0 :: Value.int .i64 z1 :: Value.int .i64 z2 :: l.map (Value.int .u8)
    match cs, hl with
    | c0 :: c1 :: c2 :: r, hl =>
      simp only [List.drop_zero, List.take_succ_cons, List.take_zero, List.cons.injEq, and_true, List.drop_succ_cons] at e0 e1 e2 e3
      subst e0; subst e1; subst e2
      rw [List.take_of_length_le (by simp at hl; omega)] at e3
      rw [e3]
  · have hm : IntKind.i64.min = -9223372036854775808 := rfl
    have hM : IntKind.i64.max = 9223372036854775807 := rfl
    simp [Lit.wf, hm, hM] at w0 w1 w2
    exact ⟨w0.1, w0.2, w1.1, w1.2, w2.1, w2.2, l3, b3⟩
set_option maxRecDepth 100000 in
theorem open_boot {r : Reach} {b0 : Nat} {v : Value} {d : DataW H} {p : List MemPlace} (hv : Value.okWide Try.prog w r b0 31 v) (h : DataW.Trod enc Try.prog w base spare held 31 v d p) : ∃ b : BT, v = .agg b.cells ∧ b.wf := by
  obtain ⟨cs, rfl, _⟩ := okWide_struct Try.underlying31 hv
  obtain ⟨fuel, hf⟩ := h
  obtain ⟨b, hb, hw⟩ := trod_boot hf
  exact ⟨b, by rw [← hb]; rfl, hw⟩
end
end Go.Proofs.Ytfodboooopkheaa
