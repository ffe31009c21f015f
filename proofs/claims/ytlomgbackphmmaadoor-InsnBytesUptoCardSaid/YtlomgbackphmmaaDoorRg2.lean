/- A region that draws its order, whose operations come to values that are not known ahead: own law. -/
import Derived.Test.YtlomgbackphmmaaDoorRg
import Derived.Below
set_option linter.unusedVariables false
set_option linter.unusedSimpArgs false
namespace Go.Proofs.YtlomgbackphmmaaDoor
open Go.RowKit

section
variable {P : Program} {ops : Array Oper} {Q : Exit → Act → World → Prop} {I : World → Prop} {V : Nat → Value → World → Prop} {ds : List Nat} {a0 : Act}
/-- An operation comes, whatever the order, to some value that is as asked, in a world that has only grown. -/
def SettledE (P : Program) (ops : Array Oper) (Q : Exit → Act → World → Prop) (I : World → Prop) (V : Nat → Value → World → Prop) (ds : List Nat) (a0 : Act) (i : Nat) (o : Oper) : Prop :=
  ∀ a w (K : Act → World → Prop), (∀ e ∈ o.after, Region.binds .any e = true → ∀ d, ds[e.on]? = some d → V e.on (a.tmps.getD d undef) w) → (∀ k, k ∉ ds → a.tmps.getD k undef = a0.tmps.getD k undef) → I w →
    (∀ v w', Below w.heap.size w w' → I w' → V i v w' → ∀ d, ds[i]? = some d → K (a.put (some d) v) w') →
    if Region.wanted o (yielded ops a.tmps) = true then o.wp P a w K Q else ∀ d, ds[i]? = some d → K (a.put (some d) undef) w
/-- Where the orders stand. -/
structure MidE (ops : Array Oper) (V : Nat → Value → World → Prop) (ds : List Nat) (a0 : Act) (listed : Array Bool) (a : Act) (w : World) : Prop where
  closed : ∀ (i : Nat) o, ops[i]? = some o → listed.getD i false = true → ∀ e ∈ o.after, Region.binds .any e = true → listed.getD e.on false = true
  size : a.tmps.size = a0.tmps.size
  defers : a.defers = a0.defers
  hit : ∀ (i : Nat) d, ds[i]? = some d → listed.getD i false = true → V i (a.tmps.getD d undef) w
  base : ∀ k, k ∉ ds → a.tmps.getD k undef = a0.tmps.getD k undef

theorem anyE (hs : ops.size = ds.length) (hn : ds.Nodup) (hlt : ∀ d ∈ ds, d < a0.tmps.size)
    (hedge : ∀ (i : Nat) o, ops[i]? = some o → (∀ d, ds[i]? = some d → o.dst = some d) ∧ ∀ e ∈ o.after, Region.binds .any e = true → e.on < i)
    (hV : ∀ i v w w', Below w.heap.size w w' → V i v w → V i v w') (hops : ∀ (i : Nat) o, ops[i]? = some o → SettledE P ops Q I V ds a0 i o)
    (hQ : ∀ vs w, vs.length = ds.length → (∀ (i : Nat) v, vs[i]? = some v → V i v w) → I w → Q .normal (puts a0 (ds.zip vs)) w) :
    ∀ (fuel : Nat) (listed : Array Bool) (a : Act) (w : World), listed.size = ds.length → MidE ops V ds a0 listed a w → I w → unl listed ds.length ≤ fuel → wpAny P .any ops Q fuel listed a w := by
  have hend : ∀ (listed : Array Bool) (a : Act) (w : World), listed.size = ds.length → MidE ops V ds a0 listed a w → I w → Region.ready .any ops listed = [] → Q .normal a w := by
    intro listed a w hl M hI hr
    have hall : ∀ i, i < ds.length → listed.getD i false = true := by
      intro m' hm
      cases hc : listed.getD m' false
      · exfalso
        obtain ⟨i, h1, h2, h3⟩ := least_false (fun i => listed.getD i false) m' hc
        have : i ∈ Region.ready .any ops listed := by
          unfold Region.ready
          rw [List.mem_filter, List.mem_range, hs]
          refine ⟨by omega, ?_⟩
          obtain ⟨o, ho⟩ : ∃ o, ops[i]? = some o := ⟨ops[i]'(by omega), Array.getElem?_eq_getElem (by omega)⟩
          have hgd : listed.getD i true = listed.getD i false := by
            rw [Array.getD_eq_getD_getElem?, Array.getD_eq_getD_getElem?, Array.getElem?_eq_getElem (by omega)]; rfl
          rw [ho, hgd]
          simp only [h2, Option.map_some, Option.getD_some, Bool.not_false, Bool.true_and, Array.all_eq_true_iff_forall_mem]
          intro e he
          cases hbd : Region.binds .any e
          · rfl
          · rw [h3 e.on ((hedge i o ho).2 e he hbd), Bool.or_true]
        rw [hr] at this
        cases this
      · rfl
    have hzl : ds.length = (ds.map (fun d => a.tmps.getD d undef)).length := by simp
    have hfst : (ds.zip (ds.map (fun d => a.tmps.getD d undef))).map (·.1) = ds := List.map_fst_zip (by omega)
    have : a = puts a0 (ds.zip (ds.map (fun d => a.tmps.getD d undef))) := by
      refine act_ext (by rw [puts_size, M.size]) (by rw [puts_defers, M.defers]) (fun k => ?_)
      by_cases hk : k ∈ ds
      · obtain ⟨i, hi, hix⟩ := List.getElem_of_mem hk
        have hx : (k, a.tmps.getD k undef) ∈ ds.zip (ds.map (fun d => a.tmps.getD d undef)) := by
          rw [List.mem_iff_getElem]
          refine ⟨i, by simp; omega, ?_⟩
          rw [List.getElem_zip, List.getElem_map, hix]
        rw [puts_hit _ a0 (by rw [hfst]; exact hn) _ hx (hlt k hk)]
      · rw [puts_get _ a0 k (fun x hx e => hk (by rw [← hfst, ← e]; exact List.mem_map_of_mem hx)), M.base k hk]
    rw [this]
    refine hQ _ w (by simp) (fun i v hv => ?_) hI
    rw [List.getElem?_map] at hv
    obtain ⟨d, hd, rfl⟩ := Option.map_eq_some_iff.1 hv
    exact M.hit i d hd (hall i (List.getElem?_eq_some_iff.1 hd).1)
  intro fuel
  induction fuel with
  | zero =>
    intro listed a w hl M hI hu
    have hr : Region.ready .any ops listed = [] := by
      rw [List.eq_nil_iff_forall_not_mem]
      intro i hi
      obtain ⟨h1, h2, _⟩ := mem_ready hi
      have h2' : listed.getD i false = false := by
        rw [← h2, Array.getD_eq_getD_getElem?, Array.getD_eq_getD_getElem?, Array.getElem?_eq_getElem (by omega)]; rfl
      have := unl_pos listed i h2' ds.length (by omega)
      omega
    exact ⟨hr, hend listed a w hl M hI hr⟩
  | succ fuel ih =>
    intro listed a w hl M hI hu
    refine ⟨hend listed a w hl M hI, fun i hi => ?_⟩
    obtain ⟨h1, h2, h3⟩ := mem_ready hi
    have h2' : listed.getD i false = false := by
      rw [← h2, Array.getD_eq_getD_getElem?, Array.getD_eq_getD_getElem?, Array.getElem?_eq_getElem (by omega)]; rfl
    obtain ⟨o, ho⟩ : ∃ o, ops[i]? = some o := ⟨ops[i]'(by omega), Array.getElem?_eq_getElem (by omega)⟩
    obtain ⟨d, hd⟩ : ∃ d, ds[i]? = some d := ⟨ds[i]'(by omega), List.getElem?_eq_getElem (by omega)⟩
    have hdl : d ∈ ds := List.mem_of_getElem? hd
    have hlt' : unl (listed.setIfInBounds i true) ds.length ≤ fuel := by
      have := unl_set listed i (by omega) h2' ds.length
      rw [if_pos (by omega)] at this; omega
    have hMid : ∀ v w', Below w.heap.size w w' → V i v w' → MidE ops V ds a0 (listed.setIfInBounds i true) (a.put (some d) v) w' := by
      intro v w' hb hv
      refine ⟨fun j o' ho' hj e' he' hb' => ?_, by rw [put_size, M.size], M.defers, fun j y hy hj => ?_, fun k hk => ?_⟩
      · rw [getD_set' _ _ _ (by omega)] at hj ⊢
        have key : listed.getD e'.on false = true := by
          by_cases e3 : i = j
          · subst e3; exact h3 o' ho' e' he' hb'
          · rw [if_neg e3] at hj; exact M.closed j o' ho' hj e' he' hb'
        rw [key]; simp
      · rw [put_getD]
        by_cases e : i = j
        · subst e
          rw [hd] at hy
          obtain rfl := Option.some.inj hy
          rw [if_pos ⟨rfl, by rw [M.size]; exact hlt d hdl⟩]
          exact hv
        · rw [getD_set' _ _ _ (by omega), if_neg e] at hj
          rw [if_neg (fun hh => e ?_)]
          · exact hV _ _ _ _ hb (M.hit j y hy hj)
          · have hi' := (List.getElem?_eq_some_iff.1 hd)
            have hj' := (List.getElem?_eq_some_iff.1 hy)
            exact (List.getElem_inj hn).1 (hi'.2.trans (hh.1.trans hj'.2.symm))
      · rw [put_getD, if_neg (fun (hh : d = k ∧ d < a.tmps.size) => hk (hh.1 ▸ hdl))]
        exact M.base k hk
    have hset := hops i o ho a w (wpAny P .any ops Q fuel (listed.setIfInBounds i true)) (fun e he hb y hy => M.hit e.on y hy (h3 o ho e he hb)) M.base hI (fun v w' hb hI' hv y hy => by
      rw [hd] at hy
      obtain rfl := Option.some.inj hy
      exact ih _ _ _ (by simpa using hl) (hMid v w' hb hv) hI' hlt')
    unfold wpOp
    rw [ho]
    dsimp only
    by_cases hw : Region.wanted o (yielded ops a.tmps) = true
    · rw [if_pos hw] at hset ⊢
      exact .inl hset
    · rw [if_neg hw] at hset ⊢
      rw [(hedge i o ho).1 d hd]
      exact hset d hd
/-- The edges and the places, by reckoning. -/
def edgesE (ds : List Nat) : Nat → List Oper → Bool
  | _, [] => true
  | i, o :: os => (match ds[i]? with | some x => decide (o.dst = some x) | none => false) && o.after.all (fun e => !Region.binds .any e || decide (e.on < i)) && edgesE ds (i + 1) os
theorem edgesE_of : ∀ (os : List Oper) (k : Nat), edgesE ds k os = true → ∀ i o, os[i]? = some o → (∀ x, ds[k + i]? = some x → o.dst = some x) ∧ ∀ e ∈ o.after, Region.binds .any e = true → e.on < k + i
  | [], k, h, i, o, ho => by simp at ho
  | x :: os, k, h, 0, o, ho => by
    simp at ho; subst ho
    unfold edgesE at h
    rw [Bool.and_eq_true, Bool.and_eq_true] at h
    obtain ⟨⟨h1, h2⟩, _⟩ := h
    refine ⟨fun y hy => ?_, fun e he hbd => ?_⟩
    · rw [Nat.add_zero] at hy
      rw [hy] at h1
      simpa using h1
    · rw [Array.all_eq_true_iff_forall_mem] at h2
      have := h2 e he
      rw [hbd] at this
      simpa using this
  | x :: os, k, h, i + 1, o, ho => by
    unfold edgesE at h
    rw [Bool.and_eq_true] at h
    have := edgesE_of os (k + 1) h.2 i o (by simpa using ho)
    rw [show k + (i + 1) = k + 1 + i from by omega]
    exact this
/-- One operation after the other. -/
def SettledEs (P : Program) (ops : Array Oper) (Q : Exit → Act → World → Prop) (I : World → Prop) (V : Nat → Value → World → Prop) (ds : List Nat) (a0 : Act) : Nat → List Oper → Prop
  | _, [] => True
  | i, o :: os => SettledE P ops Q I V ds a0 i o ∧ SettledEs P ops Q I V ds a0 (i + 1) os
theorem settledE_of : ∀ (os : List Oper) (k : Nat), SettledEs P ops Q I V ds a0 k os → ∀ i o, os[i]? = some o → SettledE P ops Q I V ds a0 (k + i) o
  | [], k, h, i, o, ho => by simp at ho
  | x :: os, k, h, 0, o, ho => by simp at ho; subst ho; exact h.1
  | x :: os, k, h, i + 1, o, ho => by
    have := settledE_of os (k + 1) h.2 i o (by simpa using ho)
    rw [show k + (i + 1) = k + 1 + i from by omega]
    exact this
/-- The region itself. -/
theorem region_settledE {os : List Oper} {id : Nat} {w : World} (hmx : P.follows .mixedOrders = true) (I : World → Prop) (V : Nat → Value → World → Prop) (ds : List Nat) (hs : os.length = ds.length) (hn : ds.Nodup) (hlb : ds.all (fun k => decide (k < a0.tmps.size)) = true)
    (hedge : edgesE ds 0 os = true) (hV : ∀ i v w w', Below w.heap.size w w' → V i v w → V i v w') (hI : I w.drew) (hops : SettledEs P os.toArray Q I V ds a0 0 os)
    (hQ : ∀ vs w, vs.length = ds.length → (∀ (i : Nat) v, vs[i]? = some v → V i v w) → I w → Q .normal (puts a0 (ds.zip vs)) w) : (Code.region id os.toArray true).wp P Q a0 w := by
  refine wp_region_any hmx ?_
  have hlt : ∀ d ∈ ds, d < a0.tmps.size := fun d hd => by
    have := (List.all_eq_true.1 hlb) d hd
    simpa using this
  have hz : ∀ n i, (Array.replicate n false).getD i false = false := fun n i => by
    rw [Array.getD_eq_getD_getElem?, Array.getElem?_replicate]
    split <;> rfl
  refine anyE (by simpa using hs) hn hlt (fun i o ho => ?_) hV (fun i o ho => ?_) hQ _ _ a0 _ (by simp [hs]) ⟨fun i o _ h => (by rw [hz] at h; cases h), rfl, rfl, fun i d _ h => (by rw [hz] at h; cases h), fun k _ => rfl⟩ hI ?_
  · have := edgesE_of os 0 hedge i o (by simpa using ho)
    rw [Nat.zero_add] at this
    exact this
  · have := settledE_of os 0 hops i o (by simpa using ho)
    rw [Nat.zero_add] at this
    exact this
  · have : ∀ n k, unl (Array.replicate n false) k ≤ k := fun n k => by
      induction k with
      | zero => exact Nat.le_refl _
      | succ k ih => unfold unl; split <;> omega
    have := this os.toArray.size ds.length
    simp at this ⊢
    omega

/-- The guard says yes. -/
def YesE (V : Nat → Value → World → Prop) (ds : List Nat) (ops : Array Oper) (o : Oper) : Prop :=
  o.guard = none ∨ ∃ j b o' k, o.guard = some (j, b) ∧ ops[j]? = some o' ∧ o'.dst = some k ∧ ds[j]? = some k ∧ (∀ v w, V j v w → v = .bool b) ∧ onB o j = true
/-- What an operand is. -/
def OpE (V : Nat → Value → World → Prop) (ds : List Nat) (a0 : Act) (o : Oper) (x : Operand) (p : Value → World → Prop) : Prop :=
  (∃ v, x = .const v ∧ ∀ w, p v w) ∨ ∃ t, x = .tmp t ∧ ((t ∉ ds ∧ ∀ w, p (a0.tmps.getD t undef) w) ∨ ∃ j, onB o j = true ∧ ds[j]? = some t ∧ ∀ v w, V j v w → p v w)
theorem OpE.eval {o : Oper} {x : Operand} {p : Value → World → Prop} {a : Act} {w : World} (h : OpE V ds a0 o x p) (hd : ∀ e ∈ o.after, Region.binds .any e = true → ∀ d, ds[e.on]? = some d → V e.on (a.tmps.getD d undef) w)
    (hb : ∀ k, k ∉ ds → a.tmps.getD k undef = a0.tmps.getD k undef) : p (a.eval x) w := by
  rcases h with ⟨v, rfl, h⟩ | ⟨t, rfl, ⟨h1, h2⟩ | ⟨j, hj, hds, hp⟩⟩
  · exact h w
  · have e : a.eval (.tmp t) = a0.tmps.getD t undef := hb t h1
    rw [e]; exact h2 w
  · obtain ⟨e, he, hbd, rfl⟩ := onB_of hj
    exact hp _ _ (hd e he hbd _ hds)
theorem settledE_do {i : Nat} {o : Oper} (hg : YesE V ds ops o)
    (h : ∀ a w (K : Act → World → Prop), (∀ x p, OpE V ds a0 o x p → p (a.eval x) w) → I w →
      (∀ v w', Below w.heap.size w w' → I w' → V i v w' → ∀ d, ds[i]? = some d → K (a.put (some d) v) w') → o.wp P a w K Q) : SettledE P ops Q I V ds a0 i o := by
  intro a w K hd hb hI hk
  have hw : Region.wanted o (yielded ops a.tmps) = true := by
    rcases hg with hg | ⟨j, b, o', k, h1, h2, h3, h4, h5, h6⟩
    · exact wanted_none hg
    · obtain ⟨e, he, hbd, rfl⟩ := onB_of h6
      rw [wanted_of h1 h2 h3 (h5 _ _ (hd e he hbd _ h4))]; simp
  rw [if_pos hw]
  exact h a w K (fun x p hv => hv.eval hd hb) hI hk
theorem se_move {i d : Nat} {x : Operand} {o : Oper} (ho : o.op = .move x) (hd : o.dst = some d) (hx : ds[i]? = some d) (hg : YesE V ds ops o) (hv : OpE V ds a0 o x (V i)) : SettledE P ops Q I V ds a0 i o := by
  refine settledE_do hg ?_
  intro a w K he hI hk
  refine BigFrame.wp_move x ho ?_
  rw [hd]
  exact hk _ w (Below.refl _ w) hI (he _ _ hv) d hx
theorem se_assign {i d : Nat} {x : Operand} {o : Oper} (ho : o.op = .assign x) (hd : o.dst = some d) (hx : ds[i]? = some d) (hg : YesE V ds ops o) (hv : OpE V ds a0 o x (V i)) : SettledE P ops Q I V ds a0 i o := by
  refine settledE_do hg ?_
  intro a w K he hI hk
  refine BigFrame.wp_assign x ho ?_
  rw [hd]
  exact hk _ w (Below.refl _ w) hI (he _ _ hv) d hx
/-- An operation that comes to its value and does nothing else. -/
theorem se_val {i d : Nat} {v : Value} {o : Oper} (hd : o.dst = some d) (hx : ds[i]? = some d) (hg : YesE V ds ops o)
    (h : ∀ (a : Act) w, (∀ x p, OpE V ds a0 o x p → p (a.eval x) w) → I w → (execOp a.eval o).run P w = .ok (.value v) w ∧ V i v w) : SettledE P ops Q I V ds a0 i o := by
  refine settledE_do hg ?_
  intro a w K he hI hk
  obtain ⟨h1, h2⟩ := h a w he hI
  unfold Oper.wp
  rw [h1]
  show K (a.put o.dst v) w
  rw [hd]
  exact hk v w (Below.refl _ w) hI h2 d hx
theorem se_call {i d : Nat} {f : FuncId} {x : Operand} {ats : Array TypeId} {u : Value} {o : Oper} (ho : o.op = .call { callee := .value (.func f), args := #[x], argTypes := ats }) (hd : o.dst = some d) (hx : ds[i]? = some d) (hg : YesE V ds ops o)
    (hv : OpE V ds a0 o x (fun v _ => v = u)) (hcf : ∀ w, (callFunc f #[u]).run P w = .ok (.enter f #[u]) w) (hc : ∀ w, I w → Calls P f #[u] w fun e w' => ∃ v, e = .returned v ∧ Below w.heap.size w w' ∧ I w' ∧ V i v w') : SettledE P ops Q I V ds a0 i o := by
  refine settledE_do hg ?_
  intro a w K he hI hk
  have e := he _ _ hv
  have hc2 := hc w hI
  clear he hg hv hc
  unfold Oper.wp execOp
  rw [ho]
  dsimp only
  have e2 : #[x].map a.eval = #[u] := by simp [e]
  clear e
  generalize #[x] = args at *
  go_simp
  refine hc2.mono ?_
  rintro e' w' ⟨v, rfl, hB, hI', hv'⟩
  exact hk v w' hB hI' hv' d hx
end
end Go.Proofs.YtlomgbackphmmaaDoor
