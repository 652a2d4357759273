/- A region that draws its order, by an invariant over which of its operations are done: each operation, once all that it waits for is done, carries the invariant on. -/
import Derived.Test.YtfodboooopkheaaImg
namespace Go.Proofs.Ytfodboooopkheaa
open Go.RowKit

def setL (L : Nat → Bool) (i : Nat) : Nat → Bool := fun j => if j = i then true else L j
def forward (ops : Array Oper) : Bool := (List.range ops.size).all fun i => ((ops[i]?).map fun o => o.after.toList.all fun e => !Region.binds .any e || decide (e.on < i)).getD true

theorem wp_region_flow {P : Program} {ops : Array Oper} {Q : Exit → Act → World → Prop} {id : Nat} {a : Act} {w : World} (hm : P.follows .mixedOrders = true) (hf : forward ops = true)
    (I : (Nat → Bool) → Act → World → Prop) (h0 : I (fun _ => false) a w.drew)
    (hstep : ∀ (i : Nat) (o : Oper), ops[i]? = some o → ∀ L a w, I L a w → L i = false → (∀ e ∈ o.after.toList, Region.binds .any e = true → L e.on = true) →
      if Region.wanted o (yielded ops a.tmps) = true then o.wp P a w (fun a' w' => I (setL L i) a' w') Q else I (setL L i) (a.put o.dst undef) w)
    (hend : ∀ L a w, I L a w → (∀ i, i < ops.size → L i = true) → Q .normal a w) : (Code.region id ops true).wp P Q a w := by
  refine wp_region_any hm ?_
  show wpAny P .any ops Q ops.size (Array.replicate ops.size false) a w.drew
  have key : ∀ (fuel : Nat) (listed : Array Bool) (L : Nat → Bool) (a : Act) (w : World), listed.size = ops.size → (∀ i, i < ops.size → listed.getD i true = L i) → (∀ i, ops.size ≤ i → L i = false) →
      ((List.range ops.size).filter fun i => !L i).length ≤ fuel → I L a w → wpAny P .any ops Q fuel listed a w := by
    intro fuel
    -- what stands first among those that are not done is ready
    have least : ∀ (listed : Array Bool) (L : Nat → Bool), listed.size = ops.size → (∀ i, i < ops.size → listed.getD i true = L i) → Region.ready .any ops listed = [] → ∀ i, i < ops.size → L i = true := by
      intro listed L hs hL hr i
      induction i using Nat.strongRecOn with
      | _ i ih =>
        intro hi
        by_cases hLi : L i = true
        · exact hLi
        · exfalso
          have hm : i ∈ Region.ready .any ops listed := by
            unfold Region.ready
            rw [List.mem_filter]
            refine ⟨List.mem_range.2 hi, ?_⟩
            have ho : ops[i]? = some ops[i] := Array.getElem?_eq_getElem hi
            rw [hL i hi, ho]
            simp only [Option.map_some, Option.getD_some, Bool.and_eq_true]
            refine ⟨by simpa using hLi, ?_⟩
            rw [← Array.all_toList, List.all_eq_true]
            intro e he
            have h1 := List.all_eq_true.1 hf i (List.mem_range.2 hi)
            rw [ho] at h1
            simp only [Option.map_some, Option.getD_some] at h1
            have h2 := List.all_eq_true.1 h1 e he
            cases hb : Region.binds .any e with
            | false => simp
            | true =>
              rw [hb] at h2
              have hlt : e.on < i := by simpa using h2
              have h3 := ih e.on hlt (by omega)
              have h4 := hL e.on (by omega)
              have h5 : e.on < listed.size := by omega
              simp [h5] at h4 ⊢
              rw [h4]; exact h3
          rw [hr] at hm
          cases hm
    induction fuel with
    | zero =>
      intro listed L a w hs hL hO hc hI
      have hall : ∀ i, i < ops.size → L i = true := by
        intro i hi
        cases h : L i with
        | true => rfl
        | false =>
          have hmem : i ∈ (List.range ops.size).filter fun i => !L i := List.mem_filter.2 ⟨List.mem_range.2 hi, by simp [h]⟩
          rw [List.eq_nil_of_length_eq_zero (Nat.le_zero.1 hc)] at hmem
          cases hmem
      refine ⟨?_, hend L a w hI hall⟩
      unfold Region.ready
      rw [List.filter_eq_nil_iff]
      intro i hi
      have hi' := List.mem_range.1 hi
      simp [hL i hi', hall i hi']
    | succ fuel ih =>
      intro listed L a w hs hL hO hc hI
      refine ⟨fun hr => hend L a w hI (least listed L hs hL hr), ?_⟩
      intro i hi
      unfold Region.ready at hi
      obtain ⟨hir, hi2⟩ := List.mem_filter.1 hi
      have hi' := List.mem_range.1 hir
      have ho : ops[i]? = some ops[i] := Array.getElem?_eq_getElem hi'
      rw [ho] at hi2
      simp only [Option.map_some, Option.getD_some, Bool.and_eq_true] at hi2
      have hLi : L i = false := by rw [← hL i hi']; simpa using hi2.1
      have hdep : ∀ e ∈ (ops[i]).after.toList, Region.binds .any e = true → L e.on = true := by
        intro e he hb
        have h1 := hi2.2
        rw [← Array.all_toList, List.all_eq_true] at h1
        have h2 := h1 e he
        rw [hb] at h2
        have h3 : listed.getD e.on false = true := by simpa using h2
        by_cases hlt : e.on < ops.size
        · rw [← hL e.on hlt]
          have h5 : e.on < listed.size := by omega
          simp [h5] at h3 ⊢
          exact h3
        · have h5 : ¬ e.on < listed.size := by omega
          simp [h5] at h3
      have hK : ∀ a' w', I (setL L i) a' w' → wpAny P .any ops Q fuel (listed.setIfInBounds i true) a' w' := by
        intro a' w' hI'
        refine ih _ (setL L i) a' w' (by simpa using hs) ?_ ?_ ?_ hI'
        · intro j hj
          unfold setL
          by_cases hji : j = i
          · subst hji
            have : j < listed.size := by omega
            simp [this]
          · have h1 := hL j hj
            have h5 : j < listed.size := by omega
            simp [hji, h5, Array.getElem_setIfInBounds_ne, Ne.symm hji] at h1 ⊢
            exact h1
        · intro j hj
          unfold setL
          rw [if_neg (by omega)]
          exact hO j hj
        · have hsub : ((List.range ops.size).filter fun j => !setL L i j).length + 1 ≤ ((List.range ops.size).filter fun j => !L j).length := by
            have : (List.range ops.size).filter (fun j => !setL L i j) = ((List.range ops.size).filter fun j => !L j).erase i := by
              rw [List.Nodup.erase_eq_filter (List.nodup_range.filter _), List.filter_filter]
              apply List.filter_congr
              intro j _
              unfold setL
              by_cases hji : j = i
              · simp [hji]
              · simp [hji]
            rw [this, List.length_erase_of_mem (List.mem_filter.2 ⟨hir, by simp [hLi]⟩)]
            have hpos : 0 < ((List.range ops.size).filter fun j => !L j).length := List.length_pos_of_mem (List.mem_filter.2 ⟨hir, by simp [hLi]⟩)
            omega
          omega
      have h := hstep i _ ho L a w hI hLi hdep
      unfold wpOp
      simp only [ho]
      split
      · rename_i hw
        rw [if_pos hw] at h
        exact .inl (Oper.wp_mono hK h)
      · rename_i hw
        rw [if_neg hw] at h
        exact hK _ _ h
  refine key ops.size _ (fun _ => false) a w.drew (by simp) ?_ (fun _ _ => rfl) ?_ h0
  · intro i hi; simp [hi]
  · exact Nat.le_trans (List.length_filter_le _ _) (by simp)
/-- .. where no operation is guarded -/
theorem wp_region_flow_plain {P : Program} {ops : Array Oper} {Q : Exit → Act → World → Prop} {id : Nat} {a : Act} {w : World} (hm : P.follows .mixedOrders = true) (hf : forward ops = true) (hg : (ops.toList.all fun o => o.guard.isNone) = true)
    (I : (Nat → Bool) → Act → World → Prop) (h0 : I (fun _ => false) a w.drew)
    (hstep : ∀ (i : Nat) (o : Oper), ops[i]? = some o → ∀ L a w, I L a w → L i = false → (∀ e ∈ o.after.toList, Region.binds .any e = true → L e.on = true) → o.wp P a w (fun a' w' => I (setL L i) a' w') Q)
    (hend : ∀ L a w, I L a w → (∀ i, i < ops.size → L i = true) → Q .normal a w) : (Code.region id ops true).wp P Q a w := by
  refine wp_region_flow hm hf I h0 (fun i o ho L a w hI hL hd => ?_) hend
  have hgo : o.guard = none := by
    have := List.all_eq_true.1 hg o (Array.mem_toList_iff.2 (Array.mem_of_getElem? ho))
    simpa using this
  rw [if_pos (by simp [Region.wanted, hgo])]
  exact hstep i o ho L a w hI hL hd
end Go.Proofs.Ytfodboooopkheaa
