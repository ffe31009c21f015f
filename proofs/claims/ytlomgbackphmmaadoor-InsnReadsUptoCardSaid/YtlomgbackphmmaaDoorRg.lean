/- A region that draws its order, each of whose operations comes to a settled value, whatever the order, and keeps a condition on the world: walked once an operation. -/
import Derived.Orders
import Derived.BigFrame
import Derived.WalkKit
set_option linter.unusedVariables false
set_option linter.unusedSimpArgs false
namespace Go.Proofs.YtlomgbackphmmaaDoor
open Go.RowKit

/-- How many of the first k are not carried out yet. -/
def unl (l : Array Bool) : Nat → Nat
  | 0 => 0
  | k + 1 => unl l k + if l.getD k false = true then 0 else 1
theorem getD_set' (l : Array Bool) (i j : Nat) (hi : i < l.size) : (l.setIfInBounds i true).getD j false = if i = j then true else l.getD j false := by
  rw [Array.getD_eq_getD_getElem?, Array.getD_eq_getD_getElem?, Array.getElem?_setIfInBounds]
  by_cases h : i = j
  · subst h; rw [if_pos rfl, if_pos rfl, if_pos hi]; rfl
  · rw [if_neg h, if_neg h]
theorem unl_set (l : Array Bool) (i : Nat) (hi : i < l.size) (hf : l.getD i false = false) : ∀ k, unl (l.setIfInBounds i true) k + (if i < k then 1 else 0) = unl l k
  | 0 => by simp [unl]
  | k + 1 => by
    have ih := unl_set l i hi hf k
    unfold unl
    rw [getD_set' l i k hi]
    by_cases h : i = k
    · subst h
      rw [if_pos rfl, if_pos rfl, hf, if_pos (by omega)]
      rw [if_neg (by omega)] at ih
      simp
      omega
    · rw [if_neg h]
      by_cases h2 : i < k
      · have e1 : (if i < k + 1 then 1 else 0) = 1 := if_pos (by omega)
        rw [if_pos h2] at ih; rw [e1]; omega
      · have e1 : (if i < k + 1 then 1 else 0) = 0 := if_neg (by omega)
        rw [if_neg h2] at ih; rw [e1]; omega
theorem unl_pos (l : Array Bool) (i : Nat) (hf : l.getD i false = false) : ∀ k, i < k → 0 < unl l k
  | k + 1, h => by
    unfold unl
    by_cases e : i = k
    · subst e; rw [hf]; simp
    · have := unl_pos l i hf k (by omega); omega
theorem mem_ready {ops : Array Oper} {listed : Array Bool} {i : Nat} (h : i ∈ Region.ready .any ops listed) : i < ops.size ∧ listed.getD i true = false ∧ ∀ o, ops[i]? = some o → ∀ e ∈ o.after, Region.binds .any e = true → listed.getD e.on false = true := by
  unfold Region.ready at h
  rw [List.mem_filter, List.mem_range, Bool.and_eq_true] at h
  obtain ⟨h1, h2, h3⟩ := h
  refine ⟨h1, by simpa using h2, fun o ho e he hb => ?_⟩
  rw [ho] at h3
  simp only [Option.map_some, Option.getD_some, Array.all_eq_true_iff_forall_mem] at h3
  have := h3 e he
  rw [hb] at this
  simpa using this
theorem least_false (p : Nat → Bool) : ∀ m, p m = false → ∃ i, i ≤ m ∧ p i = false ∧ ∀ j, j < i → p j = true := by
  intro m
  induction m using Nat.strongRecOn with
  | _ m ih =>
    intro h
    by_cases hc : ∃ j, j < m ∧ p j = false
    · obtain ⟨j, hj, hp⟩ := hc
      obtain ⟨i, h1, h2, h3⟩ := ih j hj hp
      exact ⟨i, by omega, h2, h3⟩
    · exact ⟨m, Nat.le_refl _, h, fun j hj => by
        cases hp : p j
        · exact absurd ⟨j, hj, hp⟩ hc
        · rfl⟩

theorem put_getD (a : Act) (k : Nat) (v : Value) (j : Nat) : (a.put (some k) v).tmps.getD j undef = if k = j ∧ k < a.tmps.size then v else a.tmps.getD j undef := by
  unfold Act.put
  dsimp only
  rw [Array.getD_eq_getD_getElem?, Array.getD_eq_getD_getElem?, Array.getElem?_setIfInBounds]
  by_cases h : k = j
  · subst h
    by_cases h2 : k < a.tmps.size
    · rw [if_pos rfl, if_pos h2, if_pos ⟨rfl, h2⟩]; rfl
    · rw [if_pos rfl, if_neg h2, if_neg (fun hh => h2 hh.2), Array.getElem?_eq_none (by omega)]
  · rw [if_neg h, if_neg (fun hh => h hh.1)]
theorem put_size (a : Act) (k : Nat) (v : Value) : (a.put (some k) v).tmps.size = a.tmps.size := by unfold Act.put; simp

/-- What an operation's guard reads. -/
theorem wanted_of {ops : Array Oper} {o o' : Oper} {a : Act} {j k : Nat} {b c : Bool} (hg : o.guard = some (j, b)) (ho : ops[j]? = some o') (hd : o'.dst = some k) (hv : a.tmps.getD k undef = .bool c) :
    Region.wanted o (yielded ops a.tmps) = (c == b) := by
  unfold Region.wanted
  rw [hg]
  dsimp only
  have : yielded ops a.tmps j = some c := by
    unfold yielded
    rw [ho]
    simp only [Option.bind_some, hd]
    have h2 : a.tmps[k]? = some (.bool c) := by
      rw [Array.getD_eq_getD_getElem?] at hv
      cases h : a.tmps[k]? with
      | none => rw [h] at hv; exact absurd hv (by unfold undef; simp)
      | some x => rw [h] at hv; simp at hv; rw [hv]
    rw [h2]
  rw [this]
  cases b <;> cases c <;> rfl
theorem wanted_none {ops : Array Oper} {o : Oper} {a : Act} (hg : o.guard = none) : Region.wanted o (yielded ops a.tmps) = true := by unfold Region.wanted; rw [hg]

/-- What an operation does, whatever came ahead of it. -/
def SettledTo (P : Program) (ops : Array Oper) (Q : Exit → Act → World → Prop) (I J : World → Prop) (l : List (Nat × Value)) (a0 : Act) (i : Nat) (o : Oper) : Prop :=
  ∀ a w (K : Act → World → Prop), (∀ e ∈ o.after, Region.binds .any e = true → ∀ x, l[e.on]? = some x → a.tmps.getD x.1 undef = x.2) → (∀ k, (∀ x ∈ l, x.1 ≠ k) → a.tmps.getD k undef = a0.tmps.getD k undef) → I w →
    (∀ w', J w' → ∀ x, l[i]? = some x → K (a.put (some x.1) x.2) w') → if Region.wanted o (yielded ops a.tmps) = true then o.wp P a w K Q else ∀ x, l[i]? = some x → x.2 = undef ∧ K (a.put (some x.1) x.2) w
/-- .. and the condition holds on. -/
def Settled (P : Program) (ops : Array Oper) (Q : Exit → Act → World → Prop) (I : World → Prop) (l : List (Nat × Value)) (a0 : Act) (i : Nat) (o : Oper) : Prop := SettledTo P ops Q I I l a0 i o
/-- Comes ahead of m, whatever the order. -/
inductive Anc (ops : Array Oper) : Nat → Nat → Prop
  | one {m j : Nat} {o : Oper} {e : Edge} : ops[m]? = some o → e ∈ o.after → Region.binds .any e = true → e.on = j → Anc ops m j
  | more {m k j : Nat} : Anc ops m k → Anc ops k j → Anc ops m j
theorem Anc.listed {ops : Array Oper} {listed : Array Bool} (hc : ∀ (i : Nat) o, ops[i]? = some o → listed.getD i false = true → ∀ e ∈ o.after, Region.binds .any e = true → listed.getD e.on false = true) {m j : Nat} (h : Anc ops m j) : listed.getD m false = true → listed.getD j false = true := by
  induction h with
  | one h1 h2 h3 h4 => intro hm; subst h4; exact hc _ _ h1 hm _ h2 h3
  | more _ _ ih1 ih2 => intro hm; exact ih2 (ih1 hm)

def puts (a : Act) (l : List (Nat × Value)) : Act := l.foldl (fun a x => a.put (some x.1) x.2) a
theorem puts_get : ∀ (l : List (Nat × Value)) (a : Act) (k : Nat), (∀ x ∈ l, x.1 ≠ k) → (puts a l).tmps.getD k undef = a.tmps.getD k undef
  | [], a, k, h => rfl
  | x :: l, a, k, h => by
    show (puts (a.put (some x.1) x.2) l).tmps.getD k undef = _
    rw [puts_get l _ k (fun y hy => h y (List.mem_cons_of_mem _ hy)), put_getD, if_neg (fun hh => h x (List.mem_cons_self ..) hh.1)]
theorem puts_hit : ∀ (l : List (Nat × Value)) (a : Act), (l.map (·.1)).Nodup → ∀ x ∈ l, x.1 < a.tmps.size → (puts a l).tmps.getD x.1 undef = x.2
  | [], a, hn, x, hx, hs => by cases hx
  | y :: l, a, hn, x, hx, hs => by
    rw [List.map_cons, List.nodup_cons] at hn
    show (puts (a.put (some y.1) y.2) l).tmps.getD x.1 undef = _
    rcases List.mem_cons.1 hx with rfl | hx
    · rw [puts_get l _ _ (fun z hz e => hn.1 (List.mem_map.2 ⟨z, hz, e⟩)), put_getD, if_pos ⟨rfl, hs⟩]
    · exact puts_hit l _ hn.2 x hx (by rw [put_size]; exact hs)
theorem puts_size : ∀ (l : List (Nat × Value)) (a : Act), (puts a l).tmps.size = a.tmps.size
  | [], a => rfl
  | x :: l, a => by show (puts (a.put (some x.1) x.2) l).tmps.size = _; rw [puts_size l, put_size]
theorem puts_defers : ∀ (l : List (Nat × Value)) (a : Act), (puts a l).defers = a.defers
  | [], a => rfl
  | x :: l, a => by show (puts (a.put (some x.1) x.2) l).defers = _; rw [puts_defers l]; rfl
theorem act_ext {a b : Act} (hs : a.tmps.size = b.tmps.size) (hd : a.defers = b.defers) (h : ∀ k, a.tmps.getD k undef = b.tmps.getD k undef) : a = b := by
  cases a with
  | mk t d =>
    cases b with
    | mk t' d' =>
      simp only [Act.mk.injEq]
      refine ⟨Array.ext hs (fun i h1 h2 => ?_), hd⟩
      have := h i
      dsimp only at this h1 h2
      rw [Array.getD_eq_getD_getElem?, Array.getD_eq_getD_getElem?, Array.getElem?_eq_getElem h1, Array.getElem?_eq_getElem h2] at this
      exact this

section
variable {P : Program} {ops : Array Oper} {Q : Exit → Act → World → Prop} {I : World → Prop}

/-- Where the orders stand: what is carried out has its value, all else is as it was. -/
structure Mid (ops : Array Oper) (l : List (Nat × Value)) (a0 : Act) (listed : Array Bool) (a : Act) : Prop where
  closed : ∀ (i : Nat) o, ops[i]? = some o → listed.getD i false = true → ∀ e ∈ o.after, Region.binds .any e = true → listed.getD e.on false = true
  size : a.tmps.size = a0.tmps.size
  defers : a.defers = a0.defers
  hit : ∀ (i : Nat) x, l[i]? = some x → listed.getD i false = true → a.tmps.getD x.1 undef = x.2
  base : ∀ k, (∀ x ∈ l, x.1 ≠ k) → a.tmps.getD k undef = a0.tmps.getD k undef

theorem any_of_turned {I0 I1 : World → Prop} {m : Nat} {l : List (Nat × Value)} {a0 : Act} (hs : ops.size = l.length) (hn : (l.map (·.1)).Nodup) (hlt : ∀ x ∈ l, x.1 < a0.tmps.size)
    (hedge : ∀ (i : Nat) o, ops[i]? = some o → (∀ x, l[i]? = some x → o.dst = some x.1) ∧ ∀ e ∈ o.after, Region.binds .any e = true → e.on < i)
    (hops : ∀ (i : Nat) o, ops[i]? = some o → i ≠ m → Settled P ops Q I0 l a0 i o ∧ (Anc ops m i ∨ Settled P ops Q I1 l a0 i o)) (hm : ∀ o, ops[m]? = some o → SettledTo P ops Q I0 I1 l a0 m o) (hml : m < l.length)
    (hQ : ∀ w, I1 w → Q .normal (puts a0 l) w) :
    ∀ (fuel : Nat) (listed : Array Bool) (a : Act) (w : World), listed.size = l.length → Mid ops l a0 listed a → (if listed.getD m false = true then I1 w else I0 w) → unl listed l.length ≤ fuel → wpAny P .any ops Q fuel listed a w := by
  have hend : ∀ (listed : Array Bool) (a : Act) (w : World), listed.size = l.length → Mid ops l a0 listed a → (if listed.getD m false = true then I1 w else I0 w) → Region.ready .any ops listed = [] → Q .normal a w := by
    intro listed a w hl M hI hr
    have hall : ∀ i, i < l.length → listed.getD i false = true := by
      intro m' hm
      cases hc : listed.getD m' false
      · exfalso
        obtain ⟨i, h1, h2, h3⟩ := least_false (fun i => listed.getD i false) m' hc
        have : i ∈ Region.ready .any ops listed := by
          unfold Region.ready
          rw [List.mem_filter, List.mem_range, hs]
          refine ⟨by omega, ?_⟩
          obtain ⟨o, ho⟩ : ∃ o, ops[i]? = some o := ⟨ops[i]'(by omega), Array.getElem?_eq_getElem (by omega)⟩
          have hgd : listed.getD i true = listed.getD i false := by
            rw [Array.getD_eq_getD_getElem?, Array.getD_eq_getD_getElem?, Array.getElem?_eq_getElem (by omega)]; rfl
          rw [ho, hgd]
          simp only [h2, Option.map_some, Option.getD_some, Bool.not_false, Bool.true_and, Array.all_eq_true_iff_forall_mem]
          intro e he
          cases hbd : Region.binds .any e
          · rfl
          · rw [h3 e.on ((hedge i o ho).2 e he hbd), Bool.or_true]
        rw [hr] at this
        cases this
      · rfl
    have : a = puts a0 l := by
      refine act_ext (by rw [puts_size, M.size]) (by rw [puts_defers, M.defers]) (fun k => ?_)
      by_cases hk : ∃ x ∈ l, x.1 = k
      · obtain ⟨x, hx, rfl⟩ := hk
        obtain ⟨i, hi, hix⟩ := List.getElem_of_mem hx
        rw [puts_hit l a0 hn x hx (hlt x hx), M.hit i x (by rw [List.getElem?_eq_getElem hi, hix]) (hall i hi)]
      · have hk' : ∀ x ∈ l, x.1 ≠ k := fun x hx e => hk ⟨x, hx, e⟩
        rw [puts_get l a0 k hk', M.base k hk']
    rw [this]
    rw [hall m hml, if_pos rfl] at hI
    exact hQ w hI
  intro fuel
  induction fuel with
  | zero =>
    intro listed a w hl M hI hu
    have hr : Region.ready .any ops listed = [] := by
      rw [List.eq_nil_iff_forall_not_mem]
      intro i hi
      obtain ⟨h1, h2, _⟩ := mem_ready hi
      have h2' : listed.getD i false = false := by
        rw [← h2, Array.getD_eq_getD_getElem?, Array.getD_eq_getD_getElem?, Array.getElem?_eq_getElem (by omega)]; rfl
      have := unl_pos listed i h2' l.length (by omega)
      omega
    exact ⟨hr, hend listed a w hl M hI hr⟩
  | succ fuel ih =>
    intro listed a w hl M hI hu
    refine ⟨hend listed a w hl M hI, fun i hi => ?_⟩
    obtain ⟨h1, h2, h3⟩ := mem_ready hi
    have h2' : listed.getD i false = false := by
      rw [← h2, Array.getD_eq_getD_getElem?, Array.getD_eq_getD_getElem?, Array.getElem?_eq_getElem (by omega)]; rfl
    obtain ⟨o, ho⟩ : ∃ o, ops[i]? = some o := ⟨ops[i]'(by omega), Array.getElem?_eq_getElem (by omega)⟩
    obtain ⟨x, hx⟩ : ∃ x, l[i]? = some x := ⟨l[i]'(by omega), List.getElem?_eq_getElem (by omega)⟩
    have hxl : x ∈ l := List.mem_of_getElem? hx
    have hlt' : unl (listed.setIfInBounds i true) l.length ≤ fuel := by
      have := unl_set listed i (by omega) h2' l.length
      rw [if_pos (by omega)] at this; omega
    have hMid : Mid ops l a0 (listed.setIfInBounds i true) (a.put (some x.1) x.2) := by
      refine ⟨fun j o' ho' hj e' he' hb' => ?_, by rw [put_size, M.size], M.defers, fun j y hy hj => ?_, fun k hk => ?_⟩
      · rw [getD_set' _ _ _ (by omega)] at hj ⊢
        have key : listed.getD e'.on false = true := by
          by_cases e3 : i = j
          · subst e3; exact h3 o' ho' e' he' hb'
          · rw [if_neg e3] at hj; exact M.closed j o' ho' hj e' he' hb'
        rw [key]; simp
      · rw [put_getD]
        by_cases e : i = j
        · subst e
          rw [hx] at hy
          obtain rfl := Option.some.inj hy
          rw [if_pos ⟨rfl, by rw [M.size]; exact hlt x hxl⟩]
        · rw [getD_set' _ _ _ (by omega), if_neg e] at hj
          rw [if_neg (fun hh => e ?_)]
          · exact M.hit j y hy hj
          · have hi' : i < l.length := by omega
            have hj' : j < l.length := (List.getElem?_eq_some_iff.1 hy).1
            have e1 : (l.map (·.1))[i]'(by simpa using hi') = (l.map (·.1))[j]'(by simpa using hj') := by
              rw [List.getElem_map, List.getElem_map, (List.getElem?_eq_some_iff.1 hx).2, (List.getElem?_eq_some_iff.1 hy).2]; exact hh.1
            exact (List.getElem_inj hn).1 e1
      · rw [put_getD, if_neg (fun hh => hk x hxl hh.1)]
        exact M.base k hk
    have hset : if Region.wanted o (yielded ops a.tmps) = true then o.wp P a w (wpAny P .any ops Q fuel (listed.setIfInBounds i true)) Q else ∀ x, l[i]? = some x → x.2 = undef ∧ (wpAny P .any ops Q fuel (listed.setIfInBounds i true)) (a.put (some x.1) x.2) w := by
      have hdep : ∀ e ∈ o.after, Region.binds .any e = true → ∀ x, l[e.on]? = some x → a.tmps.getD x.1 undef = x.2 := fun e he hb y hy => M.hit e.on y hy (h3 o ho e he hb)
      by_cases him : i = m
      · subst him
        rw [h2', if_neg (by decide)] at hI
        refine hm o ho a w _ hdep M.base hI (fun w' hI' y hy => ?_)
        rw [hx] at hy
        obtain rfl := Option.some.inj hy
        exact ih _ _ _ (by simpa using hl) hMid (by rw [getD_set' _ _ _ (by omega), if_pos rfl, if_pos rfl]; exact hI') hlt'
      · obtain ⟨g0, g1⟩ := hops i o ho him
        by_cases hlm : listed.getD m false = true
        · rw [hlm, if_pos rfl] at hI
          have g2 : Settled P ops Q I1 l a0 i o := by
            rcases g1 with g1 | g1
            · exfalso
              rw [g1.listed M.closed hlm] at h2'
              cases h2'
            · exact g1
          refine g2 a w _ hdep M.base hI (fun w' hI' y hy => ?_)
          rw [hx] at hy
          obtain rfl := Option.some.inj hy
          exact ih _ _ _ (by simpa using hl) hMid (by rw [getD_set' _ _ _ (by omega), if_neg him, hlm, if_pos rfl]; exact hI') hlt'
        · rw [if_neg hlm] at hI
          refine g0 a w _ hdep M.base hI (fun w' hI' y hy => ?_)
          rw [hx] at hy
          obtain rfl := Option.some.inj hy
          exact ih _ _ _ (by simpa using hl) hMid (by rw [getD_set' _ _ _ (by omega), if_neg him, if_neg hlm]; exact hI') hlt'
    unfold wpOp
    rw [ho]
    dsimp only
    by_cases hw : Region.wanted o (yielded ops a.tmps) = true
    · rw [if_pos hw] at hset ⊢
      exact .inl hset
    · rw [if_neg hw] at hset ⊢
      obtain ⟨hu2, hk⟩ := hset x hx
      rw [(hedge i o ho).1 x hx]
      rw [hu2] at hk
      exact hk
/-- A region, one operation of which turns the condition: in a list, for each operation where its value goes, and the value. -/
theorem region_turned {id : Nat} {a0 : Act} {w : World} (hmx : P.follows .mixedOrders = true) (l : List (Nat × Value)) (m : Nat) (I0 I1 : World → Prop) (hs : ops.size = l.length) (hn : (l.map (·.1)).Nodup) (hlb : (l.map (·.1)).all (fun k => decide (k < a0.tmps.size)) = true)
    (hedge : ∀ (i : Nat) o, ops[i]? = some o → (∀ x, l[i]? = some x → o.dst = some x.1) ∧ ∀ e ∈ o.after, Region.binds .any e = true → e.on < i)
    (hml : m < l.length) (hI : I0 w.drew) (hops : ∀ (i : Nat) o, ops[i]? = some o → i ≠ m → Settled P ops Q I0 l a0 i o ∧ (Anc ops m i ∨ Settled P ops Q I1 l a0 i o)) (hm : ∀ o, ops[m]? = some o → SettledTo P ops Q I0 I1 l a0 m o)
    (hQ : ∀ w, I1 w → Q .normal (puts a0 l) w) : (Code.region id ops true).wp P Q a0 w := by
  refine wp_region_any hmx ?_
  have hlt : ∀ x ∈ l, x.1 < a0.tmps.size := fun x hx => by
    have := (List.all_eq_true.1 hlb) x.1 (List.mem_map_of_mem hx)
    simpa using this
  have hz : ∀ i, (Array.replicate ops.size false).getD i false = false := fun i => by
    rw [Array.getD_eq_getD_getElem?, Array.getElem?_replicate]
    split <;> rfl
  refine any_of_turned hs hn hlt hedge hops hm hml hQ _ _ a0 _ (by simp [hs]) ⟨fun i o _ h => (by rw [hz] at h; cases h), rfl, rfl, fun i x _ h => (by rw [hz] at h; cases h), fun k _ => rfl⟩ (by rw [hz, if_neg (by decide)]; exact hI) ?_
  have : ∀ k, unl (Array.replicate ops.size false) k ≤ k := fun k => by
    induction k with
    | zero => exact Nat.le_refl _
    | succ k ih => unfold unl; split <;> omega
  have := this l.length
  omega

/-- The region itself: in a list, for each operation where its value goes, and the value. -/
theorem region_settled {id : Nat} {a0 : Act} {w : World} (hmx : P.follows .mixedOrders = true) (l : List (Nat × Value)) (I : World → Prop) (hs : ops.size = l.length) (hn : (l.map (·.1)).Nodup) (hlb : (l.map (·.1)).all (fun k => decide (k < a0.tmps.size)) = true)
    (hedge : ∀ (i : Nat) o, ops[i]? = some o → (∀ x, l[i]? = some x → o.dst = some x.1) ∧ ∀ e ∈ o.after, Region.binds .any e = true → e.on < i)
    (hI : I w.drew) (hops : ∀ (i : Nat) o, ops[i]? = some o → Settled P ops Q I l a0 i o)
    (hQ : ∀ w, I w → Q .normal (puts a0 l) w) : (Code.region id ops true).wp P Q a0 w := by
  by_cases h0 : ops.size = 0
  · -- nothing at all
    have : ops = #[] := Array.size_eq_zero_iff.1 h0
    subst this
    have hl : l = [] := List.eq_nil_of_length_eq_zero hs.symm
    subst hl
    refine wp_region_any hmx ?_
    exact ⟨by simp [Region.ready], hQ _ hI⟩
  · exact region_turned hmx l 0 I I hs hn hlb hedge (by omega) hI (fun i o ho _ => ⟨hops i o ho, .inr (hops i o ho)⟩) (fun o ho => hops 0 o ho) hQ
/-- One operation after the other. -/
def SettledAll (P : Program) (ops : Array Oper) (Q : Exit → Act → World → Prop) (I : World → Prop) (l : List (Nat × Value)) (a0 : Act) : Nat → List Oper → Prop
  | _, [] => True
  | i, o :: os => Settled P ops Q I l a0 i o ∧ SettledAll P ops Q I l a0 (i + 1) os
theorem settled_of {l : List (Nat × Value)} {a0 : Act} : ∀ (os : List Oper) (k : Nat), SettledAll P ops Q I l a0 k os → ∀ i o, os[i]? = some o → Settled P ops Q I l a0 (k + i) o
  | [], k, h, i, o, ho => by simp at ho
  | x :: os, k, h, 0, o, ho => by simp at ho; subst ho; exact h.1
  | x :: os, k, h, i + 1, o, ho => by
    have := settled_of os (k + 1) h.2 i o (by simpa using ho)
    rw [show k + (i + 1) = k + 1 + i from by omega]
    exact this
theorem settled_all {l : List (Nat × Value)} {a0 : Act} {os : List Oper} (h : SettledAll P os.toArray Q I l a0 0 os) : ∀ (i : Nat) o, os.toArray[i]? = some o → Settled P os.toArray Q I l a0 i o := by
  intro i o ho
  have := settled_of os 0 h i o (by simpa using ho)
  rw [Nat.zero_add] at this
  exact this
/-- The edges and the places, by reckoning. -/
def edges (l : List (Nat × Value)) : Nat → List Oper → Bool
  | _, [] => true
  | i, o :: os => (match l[i]? with | some x => decide (o.dst = some x.1) | none => false) && o.after.all (fun e => !Region.binds .any e || decide (e.on < i)) && edges l (i + 1) os
theorem edges_of {l : List (Nat × Value)} : ∀ (os : List Oper) (k : Nat), edges l k os = true → ∀ i o, os[i]? = some o → (∀ x, l[k + i]? = some x → o.dst = some x.1) ∧ ∀ e ∈ o.after, Region.binds .any e = true → e.on < k + i
  | [], k, h, i, o, ho => by simp at ho
  | x :: os, k, h, 0, o, ho => by
    simp at ho; subst ho
    unfold edges at h
    rw [Bool.and_eq_true, Bool.and_eq_true] at h
    obtain ⟨⟨h1, h2⟩, _⟩ := h
    refine ⟨fun y hy => ?_, fun e he hbd => ?_⟩
    · rw [Nat.add_zero] at hy
      rw [hy] at h1
      simpa using h1
    · rw [Array.all_eq_true_iff_forall_mem] at h2
      have := h2 e he
      rw [hbd] at this
      simpa using this
  | x :: os, k, h, i + 1, o, ho => by
    unfold edges at h
    rw [Bool.and_eq_true] at h
    have := edges_of os (k + 1) h.2 i o (by simpa using ho)
    rw [show k + (i + 1) = k + 1 + i from by omega]
    exact this
theorem edges_all {l : List (Nat × Value)} {os : List Oper} (h : edges l 0 os = true) : ∀ (i : Nat) o, os.toArray[i]? = some o → (∀ x, l[i]? = some x → o.dst = some x.1) ∧ ∀ e ∈ o.after, Region.binds .any e = true → e.on < i := by
  intro i o ho
  have := edges_of os 0 h i o (by simpa using ho)
  rw [Nat.zero_add] at this
  exact this
/-- The guard says yes; no. -/
def onB (o : Oper) (j : Nat) : Bool := o.after.any (fun e => Region.binds .any e && e.on == j)
theorem onB_of {o : Oper} {j : Nat} (h : onB o j = true) : ∃ e ∈ o.after, Region.binds .any e = true ∧ e.on = j := by
  unfold onB at h
  rw [Array.any_eq_true] at h
  obtain ⟨i, hi, h⟩ := h
  rw [Bool.and_eq_true] at h
  exact ⟨o.after[i], Array.getElem_mem hi, h.1, by simpa using h.2⟩
def Yes (ops : Array Oper) (l : List (Nat × Value)) (o : Oper) : Prop :=
  o.guard = none ∨ ∃ j b o' k, o.guard = some (j, b) ∧ ops[j]? = some o' ∧ o'.dst = some k ∧ l[j]? = some (k, .bool b) ∧ onB o j = true
def No (ops : Array Oper) (l : List (Nat × Value)) (o : Oper) : Prop :=
  ∃ j b o' k, o.guard = some (j, b) ∧ ops[j]? = some o' ∧ o'.dst = some k ∧ l[j]? = some (k, .bool (!b)) ∧ onB o j = true
theorem settledTo_do {J : World → Prop} {l : List (Nat × Value)} {a0 : Act} {i : Nat} {o : Oper} (x : Nat × Value) (hx : l[i]? = some x) (hg : Yes ops l o)
    (h : ∀ a w (K : Act → World → Prop), (∀ e ∈ o.after, Region.binds .any e = true → ∀ x, l[e.on]? = some x → a.tmps.getD x.1 undef = x.2) → (∀ k, (∀ x ∈ l, x.1 ≠ k) → a.tmps.getD k undef = a0.tmps.getD k undef) → I w →
      (∀ w', J w' → K (a.put (some x.1) x.2) w') → o.wp P a w K Q) : SettledTo P ops Q I J l a0 i o := by
  intro a w K hd hb hI hk
  have hw : Region.wanted o (yielded ops a.tmps) = true := by
    rcases hg with hg | ⟨j, b, o', k, h1, h2, h3, h4, h5⟩
    · exact wanted_none hg
    · obtain ⟨e, he, hbd, rfl⟩ := onB_of h5
      rw [wanted_of h1 h2 h3 (hd e he hbd _ h4)]; simp
  rw [if_pos hw]
  exact h a w K hd hb hI (fun w' hI' => hk w' hI' x hx)
theorem settled_do {l : List (Nat × Value)} {a0 : Act} {i : Nat} {o : Oper} (x : Nat × Value) (hx : l[i]? = some x) (hg : Yes ops l o)
    (h : ∀ a w (K : Act → World → Prop), (∀ e ∈ o.after, Region.binds .any e = true → ∀ x, l[e.on]? = some x → a.tmps.getD x.1 undef = x.2) → (∀ k, (∀ x ∈ l, x.1 ≠ k) → a.tmps.getD k undef = a0.tmps.getD k undef) → I w →
      (∀ w', I w' → K (a.put (some x.1) x.2) w') → o.wp P a w K Q) : Settled P ops Q I l a0 i o := settledTo_do x hx hg h
theorem settled_skip {l : List (Nat × Value)} {a0 : Act} {i : Nat} {o : Oper} (x : Nat × Value) (hx : l[i]? = some x) (hu : x.2 = undef) (hg : No ops l o) : Settled P ops Q I l a0 i o := by
  intro a w K hd hb hI hk
  have hw : ¬ Region.wanted o (yielded ops a.tmps) = true := by
    obtain ⟨j, b, o', k, h1, h2, h3, h4, h5⟩ := hg
    obtain ⟨e, he, hbd, rfl⟩ := onB_of h5
    rw [wanted_of h1 h2 h3 (hd e he hbd _ h4)]; cases b <;> simp
  rw [if_neg hw]
  intro y hy
  rw [hx] at hy
  obtain rfl := Option.some.inj hy
  exact ⟨hu, hk w hI x hx⟩
variable {l : List (Nat × Value)} {a0 : Act}
/-- No operation goes there. -/
def offL (l : List (Nat × Value)) (t : Nat) : Bool := (l.map (·.1)).all (fun k => k != t)
theorem offL_of {l : List (Nat × Value)} {t : Nat} (h : offL l t = true) : ∀ x ∈ l, x.1 ≠ t := by
  unfold offL at h
  rw [List.all_eq_true] at h
  intro x hx
  have := h x.1 (List.mem_map_of_mem hx)
  simpa using this
/-- What an operand is. -/
def OpV (l : List (Nat × Value)) (a0 : Act) (o : Oper) (x : Operand) (v : Value) : Prop :=
  x = .const v ∨ ∃ t, x = .tmp t ∧ ((offL l t = true ∧ a0.tmps.getD t undef = v) ∨ ∃ j, onB o j = true ∧ l[j]? = some (t, v))
theorem OpV.eval {o : Oper} {x : Operand} {v : Value} {a : Act} (h : OpV l a0 o x v) (hd : ∀ e ∈ o.after, Region.binds .any e = true → ∀ x, l[e.on]? = some x → a.tmps.getD x.1 undef = x.2)
    (hb : ∀ k, (∀ x ∈ l, x.1 ≠ k) → a.tmps.getD k undef = a0.tmps.getD k undef) : a.eval x = v := by
  rcases h with rfl | ⟨t, rfl, ⟨h1, h2⟩ | ⟨j, hj, hle⟩⟩
  · rfl
  · exact (hb t (offL_of h1)).trans h2
  · obtain ⟨e, he, hbd, rfl⟩ := onB_of hj
    exact hd e he hbd _ hle
/-- An operation that comes to its value and does nothing else. -/
theorem st_val {i d : Nat} {v : Value} {o : Oper} (hd : o.dst = some d) (hx : l[i]? = some (d, v)) (hg : Yes ops l o)
    (h : ∀ (a : Act) w, (∀ x u, OpV l a0 o x u → a.eval x = u) → I w → (execOp a.eval o).run P w = .ok (.value v) w) : Settled P ops Q I l a0 i o := by
  refine settled_do _ hx hg ?_
  intro a w K hdep hb hI hk
  unfold Oper.wp
  rw [h a w (fun x u hv => hv.eval hdep hb) hI]
  show K (a.put o.dst v) w
  rw [hd]
  exact hk w hI
theorem st_move {i d : Nat} {x : Operand} {v : Value} {o : Oper} (ho : o.op = .move x) (hd : o.dst = some d) (hx : l[i]? = some (d, v)) (hg : Yes ops l o) (hv : OpV l a0 o x v) : Settled P ops Q I l a0 i o := by
  refine settled_do _ hx hg ?_
  intro a w K hdep hb hI hk
  refine BigFrame.wp_move x ho ?_
  rw [hv.eval hdep hb, hd]
  exact hk w hI
theorem st_assign {i d : Nat} {x : Operand} {v : Value} {o : Oper} (ho : o.op = .assign x) (hd : o.dst = some d) (hx : l[i]? = some (d, v)) (hg : Yes ops l o) (hv : OpV l a0 o x v) : Settled P ops Q I l a0 i o := by
  refine settled_do _ hx hg ?_
  intro a w K hdep hb hI hk
  refine BigFrame.wp_assign x ho ?_
  rw [hv.eval hdep hb, hd]
  exact hk w hI
theorem st_not {i d ty : Nat} {x : Operand} {b : Bool} {o : Oper} (ho : o.op = .unOp .not ty x) (hd : o.dst = some d) (hx : l[i]? = some (d, .bool (!b))) (hg : Yes ops l o) (hv : OpV l a0 o x (.bool b)) : Settled P ops Q I l a0 i o := by
  refine settled_do _ hx hg ?_
  intro a w K hdep hb hI hk
  have e := hv.eval hdep hb
  have hk2 := hk w hI
  clear hk hdep hb hx hg hv
  unfold Oper.wp execOp
  rw [ho]
  dsimp only
  rw [e]
  go_simp
  exact hk2
theorem st_pick {i d : Nat} {x y z : Operand} {b : Bool} {v : Value} {o : Oper} (ho : o.op = .pick x y z) (hd : o.dst = some d) (hx : l[i]? = some (d, v)) (hg : Yes ops l o) (hv : OpV l a0 o x (.bool b))
    (hy : if b then OpV l a0 o y v else OpV l a0 o z v) : Settled P ops Q I l a0 i o := by
  refine settled_do _ hx hg ?_
  intro a w K hdep hb hI hk
  have e := hv.eval hdep hb
  have e2 : (if b then a.eval y else a.eval z) = v := by
    cases b
    · exact OpV.eval (by simpa using hy) hdep hb
    · exact OpV.eval (by simpa using hy) hdep hb
  have hk2 := hk w hI
  clear hk hdep hb hx hg hv hy
  unfold Oper.wp execOp
  rw [ho]
  dsimp only
  rw [e]
  generalize a.eval y = yv at *
  generalize a.eval z = zv at *
  cases b
  all_goals
    simp at e2
    subst e2
    go_simp
    exact hk2
theorem st_sub {i d ty ty2 : Nat} {x y : Operand} {m n : Int} {o : Oper} (ho : o.op = .binOp .sub ty x y ty2) (hu : P.underlying ty = some (.int .i64)) (hd : o.dst = some d) (hx : l[i]? = some (d, .int .i64 (IntKind.i64.wrap (m - n)))) (hg : Yes ops l o) (hv : OpV l a0 o x (.int .i64 m)) (hv2 : OpV l a0 o y (.int .i64 n)) : Settled P ops Q I l a0 i o := by
  refine settled_do _ hx hg ?_
  intro a w K hdep hb hI hk
  have e := hv.eval hdep hb
  have e2 := hv2.eval hdep hb
  have hk2 := hk w hI
  clear hk hdep hb hx hg hv
  unfold Oper.wp execOp
  rw [ho]
  dsimp only
  rw [e, e2]
  go_simp
  exact hk2
theorem st_callTo {J : World → Prop} {i d : Nat} {f : FuncId} {args : Array Operand} {ats : Array TypeId} {vs : Array Value} {v : Value} {o : Oper} (ho : o.op = .call { callee := .value (.func f), args := args, argTypes := ats }) (hd : o.dst = some d) (hx : l[i]? = some (d, v)) (hg : Yes ops l o)
    (hs : args.size = vs.size) (hv : ∀ (k : Nat) x v, args[k]? = some x → vs[k]? = some v → OpV l a0 o x v) (hcf : ∀ w, (callFunc f vs).run P w = .ok (.enter f vs) w) (hc : ∀ w, I w → Calls P f vs w fun e w' => e = .returned v ∧ J w') : SettledTo P ops Q I J l a0 i o := by
  refine settledTo_do _ hx hg ?_
  intro a w K hdep hb hI hk
  have e : args.map a.eval = vs := by
    refine Array.ext (by simpa using hs) (fun k h1 h2 => ?_)
    rw [Array.getElem_map]
    exact (hv k _ _ (Array.getElem?_eq_getElem (by simpa using h1)) (Array.getElem?_eq_getElem h2)).eval hdep hb
  clear hdep hb hx hg hv
  unfold Oper.wp execOp
  rw [ho]
  dsimp only
  go_simp
  refine (hc w hI).mono ?_
  rintro e w' ⟨rfl, hI'⟩
  exact hk w' hI'
theorem st_call {i d : Nat} {f : FuncId} {args : Array Operand} {ats : Array TypeId} {vs : Array Value} {v : Value} {o : Oper} (ho : o.op = .call { callee := .value (.func f), args := args, argTypes := ats }) (hd : o.dst = some d) (hx : l[i]? = some (d, v)) (hg : Yes ops l o)
    (hs : args.size = vs.size) (hv : ∀ (k : Nat) x v, args[k]? = some x → vs[k]? = some v → OpV l a0 o x v) (hcf : ∀ w, (callFunc f vs).run P w = .ok (.enter f vs) w) (hc : ∀ w, I w → Calls P f vs w fun e w' => e = .returned v ∧ I w') : Settled P ops Q I l a0 i o := st_callTo ho hd hx hg hs hv hcf hc
theorem st_callVTo {J : World → Prop} {i d : Nat} {f : FuncId} {fx : Operand} {caps : Array Value} {args : Array Operand} {ats : Array TypeId} {vs : Array Value} {v : Value} {o : Oper} (ho : o.op = .call { callee := .value fx, args := args, argTypes := ats }) (hd : o.dst = some d) (hx : l[i]? = some (d, v)) (hg : Yes ops l o)
    (hs : args.size = vs.size) (hv : ∀ (k : Nat) x v, args[k]? = some x → vs[k]? = some v → OpV l a0 o x v) (hfx : OpV l a0 o fx (.func (.func f) #[] caps)) (hcf : ∀ w, (callFunc f (vs ++ caps)).run P w = .ok (.enter f (vs ++ caps)) w) (hc : ∀ w, I w → Calls P f (vs ++ caps) w fun e w' => e = .returned v ∧ J w') : SettledTo P ops Q I J l a0 i o := by
  refine settledTo_do _ hx hg ?_
  intro a w K hdep hb hI hk
  have e0 := hfx.eval hdep hb
  have e : args.map a.eval = vs := by
    refine Array.ext (by simpa using hs) (fun k h1 h2 => ?_)
    rw [Array.getElem_map]
    exact (hv k _ _ (Array.getElem?_eq_getElem (by simpa using h1)) (Array.getElem?_eq_getElem h2)).eval hdep hb
  clear hdep hb hx hg hv hfx
  unfold Oper.wp execOp
  rw [ho]
  unfold resolve
  dsimp only
  rw [e0, e]
  unfold Deferred.ofValue
  go_simp
  refine (hc w hI).mono ?_
  rintro e w' ⟨rfl, hI'⟩
  exact hk w' hI'
/-- Does it come ahead, by reckoning? -/
def ancB (ops : Array Oper) : Nat → Nat → Nat → Bool
  | 0, _, _ => false
  | f + 1, m, j => match ops[m]? with
    | some o => o.after.toList.any (fun e => Region.binds .any e && (e.on == j || ancB ops f e.on j))
    | none => false
theorem anc_of {ops : Array Oper} : ∀ (f m j : Nat), ancB ops f m j = true → Anc ops m j
  | 0, m, j, h => by cases h
  | f + 1, m, j, h => by
    unfold ancB at h
    cases ho : ops[m]? with
    | none => rw [ho] at h; cases h
    | some o =>
      rw [ho] at h
      rw [List.any_eq_true] at h
      obtain ⟨e, he, h⟩ := h
      rw [Bool.and_eq_true, Bool.or_eq_true] at h
      obtain ⟨hb, h | h⟩ := h
      · exact .one ho (Array.mem_toList_iff.1 he) hb (by simpa using h)
      · exact .more (.one ho (Array.mem_toList_iff.1 he) hb rfl) (anc_of f _ _ h)
def TurnedAll (P : Program) (ops : Array Oper) (Q : Exit → Act → World → Prop) (I0 I1 : World → Prop) (l : List (Nat × Value)) (a0 : Act) (m : Nat) : Nat → List Oper → Prop
  | _, [] => True
  | i, o :: os => (match Nat.beq i m with
      | true => SettledTo P ops Q I0 I1 l a0 i o
      | false => Settled P ops Q I0 l a0 i o ∧ (ancB ops ops.size m i = true ∨ Settled P ops Q I1 l a0 i o)) ∧ TurnedAll P ops Q I0 I1 l a0 m (i + 1) os
theorem turned_of {I0 I1 : World → Prop} {m : Nat} : ∀ (os : List Oper) (k : Nat), TurnedAll P ops Q I0 I1 l a0 m k os → ∀ i o, os[i]? = some o → (match Nat.beq (k + i) m with
      | true => SettledTo P ops Q I0 I1 l a0 (k + i) o
      | false => Settled P ops Q I0 l a0 (k + i) o ∧ (ancB ops ops.size m (k + i) = true ∨ Settled P ops Q I1 l a0 (k + i) o))
  | [], k, h, i, o, ho => by simp at ho
  | x :: os, k, h, 0, o, ho => by simp at ho; subst ho; exact h.1
  | x :: os, k, h, i + 1, o, ho => by
    have := turned_of os (k + 1) h.2 i o (by simpa using ho)
    rw [show k + (i + 1) = k + 1 + i from by omega]
    exact this
theorem turned_all {os : List Oper} {I0 I1 : World → Prop} {m : Nat} (h : TurnedAll P os.toArray Q I0 I1 l a0 m 0 os) :
    (∀ (i : Nat) o, os.toArray[i]? = some o → i ≠ m → Settled P os.toArray Q I0 l a0 i o ∧ (Anc os.toArray m i ∨ Settled P os.toArray Q I1 l a0 i o)) ∧ ∀ o, os.toArray[m]? = some o → SettledTo P os.toArray Q I0 I1 l a0 m o := by
  refine ⟨fun i o ho hne => ?_, fun o ho => ?_⟩
  · have := turned_of os 0 h i o (by simpa using ho)
    rw [Nat.zero_add, show Nat.beq i m = false from by cases hb : Nat.beq i m; rfl; exact absurd (Nat.eq_of_beq_eq_true hb) hne] at this
    exact ⟨this.1, this.2.imp (anc_of _ _ _) id⟩
  · have := turned_of os 0 h m o (by simpa using ho)
    rw [Nat.zero_add, show Nat.beq m m = true from Nat.beq_refl m] at this
    exact this
/-- A region, one operation of which turns the condition; all by reckoning but the operations. -/
theorem region_turns {os : List Oper} {id : Nat} {w : World} (hmx : P.follows .mixedOrders = true) (l : List (Nat × Value)) (m : Nat) (I0 I1 : World → Prop) (hs : os.toArray.size = l.length) (hn : (l.map (·.1)).Nodup)
    (hlb : (l.map (·.1)).all (fun k => decide (k < a0.tmps.size)) = true) (hedge : edges l 0 os = true) (hml : m < l.length) (hI : I0 w.drew) (hall : TurnedAll P os.toArray Q I0 I1 l a0 m 0 os)
    (hQ : ∀ w, I1 w → Q .normal (puts a0 l) w) : (Code.region id os.toArray true).wp P Q a0 w :=
  region_turned hmx l m I0 I1 hs hn hlb (edges_all hedge) hml hI (turned_all hall).1 (turned_all hall).2 hQ
end
end Go.Proofs.YtlomgbackphmmaaDoor
