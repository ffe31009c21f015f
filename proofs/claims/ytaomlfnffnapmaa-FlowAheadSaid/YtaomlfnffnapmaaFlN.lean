/- flow.Next: what stands behind an instruction, sorted, within the program. -/
import Derived.Test.YtaomlfnffnapmaaFlB
import Derived.Maps.AppendAt
import Derived.Deep.DeepMust
import Derived.WalkSmall
import Derived.BigQuiet
import Derived.Deep.QuietTactic
import Derived.RegionTactic
import Derived.Laws.OwnMore
set_option linter.unusedVariables false
set_option linter.unusedSimpArgs false
namespace Go.Proofs.Ytaomlfnffnapmaa
open Go.RowKit Go.Shelf
attribute [local go_sem] Oper.semAt_some

theorem int_info : (Try.prog.info? 3).map (fun i => (i.zero, i.size, i.bytes)) = some (some (.int .i64 0), 1, 8) := by kernel_rfl

/-- Those within. -/
def inP (L : List Ins) (xs : List Int) : List Int := xs.filter (fun x => decide (x < (L.length : Int)))
/-- Two, the lower one first. -/
def two (xs : List Int) : List Int := match xs with
  | [x, y] => if y < x then [y, x] else [x, y]
  | l => l
def nx (L : List Ins) (pc : Int) : List Int := two (inP L (beh L pc))

theorem boxed_turn {X Y : World} {B : Nat} {t : TypeId} {v : Value} {row : Option Nat} (h : Boxed X B t v) (hg : X.grownBy Y row) (hr : ∀ r, row = some r → ∃ o : Obj, X.heap[r]? = some o ∧ o.isCells = false) : Boxed Y B t v :=
  h.kept hg (fun e' => by
    obtain ⟨o, ho, hc⟩ := hr B e'.symm
    rw [show X.heap[B]? = _ from h] at ho; cases ho; cases hc)
theorem row_turn {X Y : World} {base : Nat} {e : TypeId} {size : Nat} {v : Value} {k : Nat} {xs : List Value} {row : Option Nat} (h : X.ownsRow base e size v k xs) (hg : X.grownBy Y row) (hr : ∀ r, row = some r → ∃ o : Obj, X.heap[r]? = some o ∧ o.isCells = false) : Y.ownsRow base e size v k xs := by
  refine h.kept hg ?_
  rcases h.2 with ⟨rfl, _⟩ | ⟨g, cap, cur, rfl, _, hgb, _⟩
  · exact .inl rfl
  · refine .inr fun e' => ?_
    obtain ⟨o, ho, hc⟩ := hr g (by simpa [Value.ownBlock] using e'.symm)
    rw [hgb] at ho; cases ho; cases hc
theorem below_turn {w0 X Y : World} {row : Option Nat} {N : Nat} (h : Below w0.heap.size w0 X) (hg : X.grownBy Y row) (hN : w0.heap.size ≤ N) (hr : ∀ r, row = some r → N ≤ r) : Below w0.heap.size w0 Y :=
  h.grown hg h.size (fun k e => by have := hr k e; omega)

/-- A variable that holds the numbers collected so far; other variables; nothing that lay has turned. -/
structure Coll (w0 : World) (n1 BL : Nat) (Bx : List (Nat × TypeId × Value)) (ys : List Int) (W : World) : Prop where
  ex : ∃ v, Boxed W BL 31 v ∧ W.ownsRow n1 3 1 v ys.length (ys.map (Value.int .i64))
  bx : ∀ b ∈ Bx, Boxed W b.1 b.2.1 b.2.2
  below : Below w0.heap.size w0 W
  n1 : n1 ≤ W.heap.size
theorem Coll.turn {w0 X Y : World} {n1 BL N : Nat} {Bx : List (Nat × TypeId × Value)} {ys : List Int} {row : Option Nat} (h : Coll w0 n1 BL Bx ys X) (hN : w0.heap.size ≤ N) (hg : X.grownBy Y row) (hr : ∀ r, row = some r → N ≤ r ∧ ∃ o : Obj, X.heap[r]? = some o ∧ o.isCells = false) : Coll w0 n1 BL Bx ys Y := by
  obtain ⟨v, hv, hrow⟩ := h.ex
  exact ⟨⟨v, boxed_turn hv hg (fun r e => (hr r e).2), row_turn hrow hg (fun r e => (hr r e).2)⟩, fun b hb => boxed_turn (h.bx b hb) hg (fun r e => (hr r e).2), below_turn h.below hg hN (fun r e => (hr r e).1), Nat.le_trans h.n1 hg.size⟩
theorem Coll.own {w0 : World} {n1 BL N : Nat} {Bx : List (Nat × TypeId × Value)} (f : List Int → List Int) (hN : w0.heap.size ≤ N) : OwnFrom N (fun pre W => Coll w0 n1 BL Bx (f pre) W) :=
  fun s X Y row hs hg hr => hs.turn hN hg hr
/-- One more number. -/
theorem Coll.appended {w0 W w1 : World} {n1 BL N : Nat} {Bx : List (Nat × TypeId × Value)} {ys zs : List Int} {v v' : Value} {tmp : Obj} (h : Coll w0 n1 BL Bx ys W) (hv : Boxed W BL 31 v) (hrow : W.ownsRow n1 3 1 v ys.length (ys.map (Value.int .i64)))
    (h0 : w0.heap.size ≤ BL) (h1 : BL < n1) (hbx : ∀ b ∈ Bx, b.1 < n1 ∧ b.1 ≠ BL) (hown' : w1.ownsRow n1 3 1 v' zs.length (zs.map (Value.int .i64))) (hgrow : (W.alloc tmp).grownBy w1 v.ownBlock) :
    Boxed w1 BL 31 v ∧ Coll w0 n1 BL Bx zs (w1.setCell ⟨BL, 0, none⟩ v') ∧ KeepsFrom N W (w1.setCell ⟨BL, 0, none⟩ v') ∧ (∀ (B : Nat) (t : TypeId) (u : Value), B < n1 → B ≠ BL → Boxed W B t u → Boxed (w1.setCell ⟨BL, 0, none⟩ v') B t u) ∧ (∀ D : Nat, W.heap[D]? = some (.deferred (some [])) → (w1.setCell ⟨BL, 0, none⟩ v').heap[D]? = some (.deferred (some []))) := by
  have hob : ∀ k, v.ownBlock = some k → n1 ≤ k := fun k e => (hrow.lt k e).1
  have hkeep : ∀ (B : Nat) (t : TypeId) (u : Value), B < n1 → Boxed W B t u → Boxed w1 B t u := fun B t u hB hb => (hb.alloc tmp).kept hgrow (fun e => by have := hob B e.symm; omega)
  have hv1 := hkeep BL _ _ h1 hv
  have hset : ∀ (B : Nat) (t : TypeId) (u : Value), B ≠ BL → Boxed w1 B t u → Boxed (w1.setCell ⟨BL, 0, none⟩ v') B t u := fun B t u hne hb => hb.kept (grownBy_setCell' w1 BL v') (fun e => hne (by injection e))
  refine ⟨hv1, ⟨⟨v', hv1.set v', hown'.kept (grownBy_setCell' w1 BL v') (.inr (hv1.not_row (by decide) hown').symm)⟩, fun b hb => hset _ _ _ (hbx b hb).2 (hkeep _ _ _ (hbx b hb).1 (h.bx b hb)), ?_, ?_⟩, ?_, fun B t u hB hne hb => hset _ _ _ hne (hkeep _ _ _ hB hb), fun D hD => ?_⟩
  · have hw : w0.heap.size ≤ W.heap.size := h.below.size
    exact ((h.below.alloc hw tmp).grown hgrow (by simp; omega) fun j ej => by have := hob j ej; omega).setCell (p := ⟨BL, 0, none⟩) h0 v'
  · have := hgrow.size; have h2 := h.n1; have h3 := (grownBy_setCell' w1 BL v').size; rw [World.size_alloc] at this; omega
  · refine (((KeepsOthers.alloc W tmp).trans (KeepsOthers.of_grownBy hgrow fun j o ej hj => ?_)).trans (KeepsOthers.setCell _ _ _)).from _
    rcases (hrow.alloc tmp).2 with ⟨rfl, _⟩ | ⟨g, cap, cur, rfl, _, hgb, _⟩
    · simp [Value.ownBlock] at ej
    · obtain rfl : g = j := by simpa [Value.ownBlock] using ej
      rw [hgb] at hj; cases hj; rfl

  · have hDl := (Array.getElem?_eq_some_iff.1 hD).1
    have h2 : (W.alloc tmp).heap[D]? = some (.deferred (some [])) := (Below.heap_alloc W tmp D hDl).trans hD
    have h3 : w1.heap[D]? = some (.deferred (some [])) := (hgrow.block D (by rw [World.size_alloc]; omega) (fun e => by
      rcases (hrow.alloc tmp).2 with ⟨rfl, _⟩ | ⟨g, cap, cur, rfl, _, hgb, _⟩
      · simp [Value.ownBlock] at e
      · obtain rfl : D = g := by simpa [Value.ownBlock] using e
        rw [hgb] at h2; cases h2)).trans h2
    refine (Below.heap_setCell _ _ _ D (fun e => ?_)).trans h3
    have h4 : D = BL := e
    subst h4
    rw [show w1.heap[D]? = _ from hv1] at h3; cases h3

/-- Marks among the deferred calls. -/
def Marks (B : Nat) (W : World) : List Deferred → Prop
  | [] => True
  | d :: ds => (∃ r, d = { target := .collected r, args := #[] } ∧ B ≤ r ∧ W.heap[r]? = some (.deferred (some [])) ∧ (∀ d' ∈ ds, d'.target ≠ .collected r)) ∧ Marks B W ds
theorem Marks.keep {B : Nat} {W W' : World} : ∀ {ds : List Deferred}, Marks B W ds → (∀ r, B ≤ r → (∃ d ∈ ds, d.target = .collected r) → W.heap[r]? = some (.deferred (some [])) → W'.heap[r]? = some (.deferred (some []))) → Marks B W' ds
  | [], _, _ => trivial
  | d :: ds, ⟨⟨r, e, hB, hr, hn⟩, h⟩, hk => ⟨⟨r, e, hB, hk r hB ⟨d, List.mem_cons_self .., by rw [e]⟩ hr, hn⟩, h.keep (fun r' hB' ⟨d', hd', e'⟩ => hk r' hB' ⟨d', List.mem_cons_of_mem _ hd', e'⟩)⟩
theorem Marks.lt {B : Nat} {W : World} : ∀ {ds : List Deferred}, Marks B W ds → ∀ d ∈ ds, ∀ r, d.target = .collected r → r < W.heap.size
  | _ :: _, ⟨⟨r, e, hB, hr, hn⟩, h⟩, d', hd', r', e' => by
    rcases List.mem_cons.1 hd' with h1 | h1
    · subst h1; rw [e] at e'; injection e' with e'; subst e'; exact (Array.getElem?_eq_some_iff.1 hr).1
    · exact h.lt d' h1 r' e'
theorem Marks.turn {B N : Nat} {X Y : World} {ds : List Deferred} {row : Option Nat} (h : Marks B X ds) (hN : ∀ d ∈ ds, ∀ r, d.target = .collected r → r < N) (hg : X.grownBy Y row) (hr : ∀ r, row = some r → N ≤ r) : Marks B Y ds :=
  h.keep (fun r hB ⟨d, hd, e⟩ hx => (hg.block r (Array.getElem?_eq_some_iff.1 hx).1 (fun e2 => by have := hr r e2.symm; have := hN d hd r e; omega)).trans hx)
theorem Marks.more {B D : Nat} {W : World} {ds : List Deferred} (h : Marks B W ds) (hB : B ≤ D) (hK : W.heap[D]? = some (.deferred (some []))) (hlt : ∀ d ∈ ds, ∀ r, d.target = .collected r → r < D) : Marks B W ({ target := .collected D, args := #[] } :: ds) :=
  ⟨⟨D, rfl, hB, hK, fun d hd e => by have := hlt d hd D e; omega⟩, h⟩
/-- A function leaves with marks among its deferred calls. -/
theorem leaves_marks {F : Fence} {n : Nat} {P : Program} {fn : Func} {tmps : Array Value} {R : Ending → World → Prop} {B : Nat} (Good : World → Prop)
    (hstep : ∀ W r, Good W → B ≤ r → W.heap[r]? = some (.deferred (some [])) → Good (W.putObj r (.deferred none)))
    (hend : ∀ W, Good W → ∃ v, (results fn tmps).run P W = .ok v W ∧ R (.returned v) W) :
    ∀ (ds : List Deferred) (W : World), Marks B W ds → Good W → LeavesInM F n P fn tmps R ds .returning W
  | [], W, _, hg => hend W hg
  | d :: ds, W, ⟨⟨r, e, hB, hr, hn⟩, h⟩, hg => by
    subst e
    exact ⟨by simp, .inl ⟨r, _, rfl, run_takeDeferred hr, leaves_marks Good hstep hend ds _ (h.keep (fun r' hB' ⟨d', hd', e'⟩ hx => (World.putObj_heap_other (fun e2 => hn d' hd' (by rw [e', e2]))).trans hx)) (hstep W r hg hB hr)⟩⟩

theorem snoc_int (ys : List Int) (x : Int) : ys.map (Value.int .i64) ++ [Value.int .i64 x] = (ys ++ [x]).map (Value.int .i64) := by simp
theorem len_snoc (ys : List Int) (x : Int) : ys.length + 1 = (ys ++ [x]).length := by simp
theorem row_snoc {W : World} {base : Nat} {e : TypeId} {size : Nat} {v : Value} {ys : List Int} {x : Int} {xs : List Value} (h : W.ownsRow base e size v (ys ++ [x]).length xs) : ∃ g cap, v = .slice (some ⟨g, 0, none⟩) (ys.length + 1) cap := by
  rw [← len_snoc] at h; exact ownsRow_succ h
theorem row_form {w : World} {base e size n : Nat} {v : Value} {xs : List Value} (h : w.ownsRow base e size v n xs) : ∃ A c, v = .slice A n c := by
  rcases h.2 with ⟨rfl, rfl⟩ | ⟨g, cap, cur, rfl, _⟩
  · exact ⟨_, _, rfl⟩
  · exact ⟨_, _, rfl⟩
theorem bx_two (n1 BL a b : Nat) {t t' : TypeId} {u u' : Value} (ha : a < n1 ∧ a ≠ BL) (hb : b < n1 ∧ b ≠ BL) : ∀ x ∈ [(a, t, u), (b, t', u')], x.1 < n1 ∧ x.1 ≠ BL := by
  intro x hx
  rcases List.mem_cons.1 hx with rfl | hx
  · exact ha
  rcases List.mem_cons.1 hx with rfl | hx
  · exact hb
  · cases hx
theorem beh_le (L : List Ins) (pc : Int) : (beh L pc).length ≤ 2 := by
  unfold beh
  split
  · simp
  split
  · simp
  split
  · simp
  split
  · split <;> simp
  · simp
theorem inP_hit {L : List Ins} (pre : List Int) {x : Int} (h : x < (L.length : Int)) : inP L (pre ++ [x]) = inP L pre ++ [x] := by simp [inP, h]
theorem inP_miss {L : List Ins} (pre : List Int) {x : Int} (h : ¬ x < (L.length : Int)) : inP L (pre ++ [x]) = inP L pre := by simp [inP]; omega

/-- A loop over what stands behind. -/
theorem wp_range_beh {q : Tmp} {assign body : Code} {Q : Exit → Act → World → Prop} {a : Act} {w : World} {g : Operand} {Bc Bp cap : Nat} {A : Option Addr} {L : List Ins} {pc : Int}
    (hg : a.eval g = .func (.func 27) #[] #[.pointer (some ⟨Bc, 0, none⟩), .pointer (some ⟨Bp, 0, none⟩)]) (hBc : Bc < w.heap.size) (hBp : Bp < w.heap.size) (hlen : L.length ≤ 1000000)
    (hc : w.cell? ⟨Bc, 0, none⟩ = some (.int .i64 pc)) (hp : w.cell? ⟨Bp, 0, none⟩ = some (.slice A L.length cap)) (hP : Pr w A L)
    (I : List Int → World → Prop) (Ix : Code → List Int → World → Prop) (hI : OwnFrom w.heap.size I) (hIx : ∀ c, OwnFrom w.heap.size (Ix c)) (h0 : I [] w) (a₁ : Int → Act)
    (hassign : ∀ (l : Nat) (x : Int) (W : World) (K : Act → World → Prop), K (a₁ x) W →
      assign.wpIn (Fence.wide.inRound l) 7 Try.prog (Exit.then K (fun _ _ _ => False)) { tmps := a.tmps.setIfInBounds q (.int .i64 x), defers := [] } W)
    (hbody : ∀ (l : Nat) (pre : List Int) (x : Int) (W : World), I pre W → pre.length < (beh L pc).length → x ∈ beh L pc → body.wpIn (Fence.wide.inRound l) 7 Try.prog (ownPostG w.heap.size (Kb Bc) I Ix (pre ++ [x]) W) (a₁ x) W)
    (hdone : ∀ (D : Nat) (W : World), w.heap.size ≤ D → I (beh L pc) W → W.heap[D]? = some (.deferred (some [])) → Q .normal { a with defers := { target := .collected D, args := #[] } :: a.defers } W)
    (hstop : ∀ (D : Nat) (c : Code) (pre : List Int) (W : World), w.heap.size ≤ D → pre <+: beh L pc → Ix c pre W → W.heap[D]? = some (.deferred (some [])) → c.wp Try.prog Q { a with defers := { target := .collected D, args := #[] } :: a.defers } W) :
    (Code.rangeFunc g #[q] assign body).wp Try.prog Q a w := by
  refine (wpIn_wide (n := 9)).1 ?_
  exact wpIn_rangeFunc_ownG rfl (by omega) (gf := 27) (lb := #[.pointer (some ⟨Bc, 0, none⟩), .pointer (some ⟨Bp, 0, none⟩)]) hg trivial (enters_of Try.func27 (by kernel_rfl) rfl)
    (behind_stops 8 (by omega) Bc Bp A cap L pc w hBc hBp hlen hc hp hP) (fun h1 h2 => h2.trans h1)
    (fun W l o o' hl _ _ _ => by unfold Kb World.cell?; rw [World.putObj_heap_other (show Bc ≠ l by omega)])
    (Below.refl _ _) (fun _ => rfl) (fun (q : List (BehT L pc)) W => I (q.map (fun x => x.1)) W) (fun c (q : List (BehT L pc)) W => Ix c (q.map (fun x => x.1)) W) (fun (q : List (BehT L pc)) X Y row hs hg hr => hI (q.map (fun x => x.1)) X Y row hs hg hr) (fun c (q : List (BehT L pc)) X Y row hs hg hr => hIx c (q.map (fun x => x.1)) X Y row hs hg hr) h0 (fun x => a₁ x.1)
    (fun l x W K hK => by simpa using hassign l x.1 W K hK)
    (fun l q x W hi hl => wpIn_mono (hbody l (q.map (fun x => x.1)) x.1 W hi (by simpa using hl) x.2) (fun e a' W' h => by
      cases e <;> first | exact h | (simp only [ownPostG] at h ⊢; rw [List.map_append]; exact h)))
    (fun D xs W hD hS hi hk => by rw [hS] at hi; exact hdone D W hD hi hk) (fun D c q W hD hS hi hk => (wpIn_wide (n := 9)).2 (hstop D c _ W hD hS hi hk))

theorem row_mono {w : World} {base base' : Nat} {e : TypeId} {size : Nat} {v : Value} {n : Nat} {xs : List Value} (h : w.ownsRow base e size v n xs) (hb : base' ≤ base) : w.ownsRow base' e size v n xs := by
  refine ⟨h.1, ?_⟩
  rcases h.2 with h0 | ⟨g, cap, cur, h1, h2, h3⟩
  · exact .inl h0
  · exact .inr ⟨g, cap, cur, h1, Nat.le_trans hb h2, h3⟩
/-- At the end. -/
theorem row_end {w W : World} {D n1 : Nat} {v : Value} {ys : List Int} (hK : W.heap[D]? = some (.deferred (some []))) (hr : W.ownsRow n1 3 1 v ys.length (ys.map (Value.int .i64))) (hB : Below w.heap.size w W) (hD : w.heap.size ≤ D) (hn : w.heap.size ≤ n1) :
    ∃ v', Ending.returned v = .returned v' ∧ (W.putObj D (.deferred none)).ownsRow w.heap.size 3 1 v' ys.length (ys.map (Value.int .i64)) ∧ Below w.heap.size w (W.putObj D (.deferred none)) :=
  ⟨v, rfl, ownsRow_putObj (row_mono hr hn) _ hK rfl, hB.trans (belowK_b (w := w) (Nat.le_refl _) W D _ _ hD hK rfl rfl)⟩
theorem block_ne {W : World} {g o D : Nat} {u : Value} (hc : W.cell? ⟨g, o, none⟩ = some u) (hK : W.heap[D]? = some (.deferred (some []))) : D ≠ g := fun e => by
  subst e; unfold World.cell? at hc; rw [hK] at hc; simp at hc

set_option maxRecDepth 100000 in
set_option maxHeartbeats 2000000 in
theorem Next_any (A : Option Addr) (cap : Nat) (L : List Ins) (pc : Int) (w : World) (hlen : L.length ≤ 1000000) (hP : Pr w A L) :
    Calls Try.prog 15 #[.slice A L.length cap, .int .i64 pc] w fun e w' =>
      ∃ v, e = .returned v ∧ w'.ownsRow w.heap.size 3 1 v (nx L pc).length ((nx L pc).map (Value.int .i64)) ∧ Below w.heap.size w w' := by
  obtain ⟨i0, hi, hz0, hz1, hz2⟩ := info_parts int_info
  refine calls_marks Try.func15 rfl ?_
  simp only [Try.ntmps15, List.size_toArray, List.length_cons, List.length_nil, Nat.reduceAdd, Nat.reduceSub, Array.replicate_succ, Array.replicate_zero, List.push_toArray, List.append_toArray, List.nil_append, List.cons_append]
  go_wp2_with fail
  refine (behind_plain A L.length cap pc _).mono ?_
  rintro e w1 ⟨rfl, rfl⟩
  go_wp2_with fail
  obtain ⟨W1, hW1⟩ : ∃ W1, W1 = (((w.alloc (Obj.cells #[Value.slice A L.length cap] 22)).alloc (Obj.cells #[Value.slice none 0 0] 31)).alloc (Obj.cells #[Value.slice A L.length cap] 22)).alloc (Obj.cells #[Value.int IntKind.i64 pc] 3) := ⟨_, rfl⟩
  rw [← hW1]
  have hsz : W1.heap.size = w.heap.size + 4 := by rw [hW1]; simp
  have bP : Boxed W1 w.heap.size 22 (.slice A L.length cap) := by rw [hW1]; exact (((Boxed.new w _ _).alloc _).alloc _).alloc _
  have bL : Boxed W1 (w.heap.size + 1) 31 (.slice none 0 0) := by
    rw [hW1]; have := Boxed.new (w.alloc (.cells #[.slice A L.length cap] 22)) 31 (.slice none 0 0); rw [World.size_alloc] at this; exact (this.alloc _).alloc _
  have bQ : Boxed W1 (w.heap.size + 2) 22 (.slice A L.length cap) := by
    rw [hW1]; have := Boxed.new ((w.alloc (.cells #[.slice A L.length cap] 22)).alloc (.cells #[.slice none 0 0] 31)) 22 (.slice A L.length cap); rw [World.size_alloc, World.size_alloc] at this; exact this.alloc _
  have bC : Boxed W1 (w.heap.size + 3) 3 (.int .i64 pc) := by
    rw [hW1]; have := Boxed.new (((w.alloc (.cells #[.slice A L.length cap] 22)).alloc (.cells #[.slice none 0 0] 31)).alloc (.cells #[.slice A L.length cap] 22)) 3 (.int .i64 pc); rw [World.size_alloc, World.size_alloc, World.size_alloc] at this; exact this
  have hB : Below w.heap.size w W1 := by rw [hW1]; exact ((((Below.refl _ w).alloc (Nat.le_refl _) _).alloc (by simp) _).alloc (by simp; omega) _).alloc (by simp; omega) _
  clear hW1
  apply wp_range_beh (w := W1) (Bc := w.heap.size + 3) (Bp := w.heap.size + 2) (A := A) (cap := cap) (L := L) (pc := pc) rfl (by omega) (by omega) hlen bC.cell bQ.cell (hP.below hB)
    (fun pre W => Coll w (w.heap.size + 4) (w.heap.size + 1) [(w.heap.size, 22, .slice A L.length cap), (w.heap.size + 3, 3, .int .i64 pc)] (inP L pre) W)
    (fun _ _ _ => False)
  case hassign =>
    intro l x W K hK
    gi_wp2
    exact hK
  case hI => exact Coll.own _ (by omega)
  case hIx => exact fun _ _ _ _ _ hs _ _ => hs
  case h0 =>
    refine ⟨⟨_, bL, World.ownsRow_nil _ _ _ _⟩, fun b hb => ?_, hB, by omega⟩
    rcases List.mem_cons.1 hb with rfl | hb
    · exact bP
    rcases List.mem_cons.1 hb with rfl | hb
    · exact bC
    · cases hb
  case hbody =>
    rintro l pre x W hC hlt _
    obtain ⟨v, hv, hrow⟩ := hC.ex
    have hc := hv.cell
    have hp := (hC.bx (w.heap.size, 22, .slice A L.length cap) (by simp)).cell
    have hpl : (inP L pre).length ≤ pre.length := List.length_filter_le _ _
    have hbl := beh_le L pc
    have hn1 := hC.n1
    dsimp only at hp
    gi_wp2_with (gi_at_builtin; go_must (have hA3 : (inP L pre).length + 1 ≤ maxLen := (by unfold maxLen; omega); have hA4 : ((inP L pre).length + 1) * 8 ≤ 140737488355328 := (by omega); have hA5 : w.heap.size + 4 ≤ (W.alloc (.cells #[.int .i64 x] 3)).heap.size := (by rw [World.size_alloc]; omega); refine wpListIn_append_own _ rfl _ _ 31 rfl (w.heap.size + 4) 3 i0 (.int .i64 0) 1 8 Try.underlying31 hi hz0 hz1 hz2 rfl (by decide) _ _ _ rfl (hrow.alloc _) ⟨W.heap.size, 0, none⟩ 1 1 [.int .i64 x] rfl rfl (cell_one_new _ _ _) (by simp [Value.oneCell']) hA3 hA4 hA5 ?_; intro v' w1 hown' hgrow _); go_must (rw [snoc_int, len_snoc _ x] at hown'; obtain ⟨g', cap', rfl⟩ := row_snoc hown'; obtain ⟨hv1, hC2, hk2, hx2, _⟩ := hC.appended (N := W1.heap.size) hv hrow (Nat.le_add_right _ _) (Nat.add_lt_add_left (by decide) _) (bx_two (w.heap.size + 4) (w.heap.size + 1) w.heap.size (w.heap.size + 3) ⟨by omega, by omega⟩ ⟨by omega, by omega⟩) hown' hgrow; have hc1 := hv1.cell; have hf1 := hv1.frozen))
    · have hx : x < (L.length : Int) := by assumption
      refine ⟨hk2, ?_, ?_⟩
      · have h1 : Boxed W (w.heap.size + 3) 3 (.int .i64 pc) := hC.bx (w.heap.size + 3, 3, .int .i64 pc) (by simp)
        exact (hx2 _ _ _ (by omega) (by omega) h1).cell.trans h1.cell.symm
      · show Coll w _ _ _ (inP L (pre ++ [x])) _
        rw [inP_hit pre hx]; exact hC2
    · have hx : ¬ x < (L.length : Int) := by have : (L.length : Int) ≤ x := by assumption
                                             omega
      exact ⟨KeepsFrom.refl _ _, rfl, by show Coll w _ _ _ (inP L (pre ++ [x])) _; rw [inP_miss pre hx]; exact hC⟩
  case hdone =>
    rintro D W hD hC hK
    have hB2 := hC.below
    obtain ⟨v, hv, hrow⟩ := hC.ex
    have hcl := hv.cell
    have hbl := beh_le L pc
    have hpl : (inP L (beh L pc)).length ≤ (beh L pc).length := List.length_filter_le _ _
    have hnx : nx L pc = two (inP L (beh L pc)) := rfl
    have HNX := Lib.hid hnx
    clear hnx
    generalize inP L (beh L pc) = ys at *
    have HK := Lib.hid hK
    have HB2 := Lib.hid hB2
    clear hC hv bP bL bQ bC hB hP hK hB2
    match ys, hpl, hrow, HNX with
    | [], hpl, hrow, HNX =>
      obtain ⟨A5, c5, rfl⟩ : ∃ A c, v = .slice A 0 c := row_form hrow
      have HR := Lib.hid hrow
      clear hrow
      go_wp2
      go_quiet (fail)
      go_wp2
      have hK2 : (W.drewN nq).heap[D]? = some (.deferred (some [])) := HK.out
      refine ⟨by simp, .inl ⟨_, _, rfl, run_takeDeferred hK2, ?_⟩⟩
      rw [HNX.out]
      exact ⟨_, results_tmp rfl _ _ _, row_end (n1 := w.heap.size + 4) (ys := []) hK2 HR.out (below_drewN HB2.out _) (by omega) (by omega)⟩
    | [x], hpl, hrow, HNX =>
      obtain ⟨A5, c5, rfl⟩ : ∃ A c, v = .slice A 1 c := row_form hrow
      have HR := Lib.hid hrow
      clear hrow
      go_wp2
      go_quiet (fail)
      go_wp2
      have hK2 : (W.drewN nq).heap[D]? = some (.deferred (some [])) := HK.out
      refine ⟨by simp, .inl ⟨_, _, rfl, run_takeDeferred hK2, ?_⟩⟩
      rw [HNX.out]
      exact ⟨_, results_tmp rfl _ _ _, row_end (n1 := w.heap.size + 4) (ys := [x]) hK2 HR.out (below_drewN HB2.out _) (by omega) (by omega)⟩
    | [x, y], hpl, hrow, HNX =>
      obtain ⟨g, c5, rfl⟩ : ∃ g cap, v = .slice (some ⟨g, 0, none⟩) 2 cap := ownsRow_succ hrow
      have hg0 : w.heap.size + 4 ≤ g := (hrow.lt g rfl).1
      have hne : w.heap.size + 1 ≠ g := by omega
      have hne' : g ≠ w.heap.size + 1 := by omega
      have hf0 := hrow.frozenAt 0
      have hf1 := hrow.frozenAt 1
      have hc0 := hrow.cells rfl 0 (.int .i64 x) rfl
      have hc1 := hrow.cells rfl 1 (.int .i64 y) rfl
      rw [show (⟨g, 0, none⟩ : Addr).add 0 = ⟨g, 0, none⟩ from rfl] at hc0
      rw [show (⟨g, 0, none⟩ : Addr).add 1 = ⟨g, 1, none⟩ from rfl] at hc1
      have HR := Lib.hid hrow
      clear hrow
      by_cases hlt : y < x
      · have hDg := block_ne hc0 HK.out
        have htwo : two [x, y] = [y, x] := by unfold two; exact if_pos hlt
        have HT := Lib.hid htwo
        have HDG := Lib.hid hDg
        clear htwo hDg
        go_wp2
        go_quiet (fail)
        go_wp2
        go_region
        all_goals
          go_wp2
          have hs1 := (show (W.drewN (nq + 1)).ownsRow (w.heap.size + 4) 3 1 (.slice (some ⟨g, 0, none⟩) 2 c5) 2 [.int .i64 x, .int .i64 y] from HR.out)
          have hs2 := ((hs1.stored 0 (.int .i64 y)).1.stored 1 (.int .i64 x)).1
          have hK2 : (((W.drewN (nq + 1)).setCell ⟨g, 0, none⟩ (.int .i64 y)).setCell ⟨g, 1, none⟩ (.int .i64 x)).heap[D]? = some (.deferred (some [])) :=
            ((Below.heap_setCell _ _ _ D HDG.out).trans (Below.heap_setCell _ _ _ D HDG.out)).trans HK.out
          refine ⟨by simp, .inl ⟨_, _, rfl, run_takeDeferred hK2, ?_⟩⟩
          rw [HNX.out, HT.out]
          exact ⟨_, results_tmp rfl _ _ _, row_end (n1 := w.heap.size + 4) (ys := [y, x]) hK2 hs2 (((below_drewN HB2.out (nq + 1)).setCell (p := ⟨g, 0, none⟩) (by show w.heap.size ≤ g; omega) _).setCell (p := ⟨g, 1, none⟩) (by show w.heap.size ≤ g; omega) _) (by omega) (by omega)⟩
      · have htwo : two [x, y] = [x, y] := by unfold two; exact if_neg hlt
        have HT := Lib.hid htwo
        clear htwo
        go_wp2
        go_quiet (fail)
        go_wp2
        have hK2 : (W.drewN nq).heap[D]? = some (.deferred (some [])) := HK.out
        refine ⟨by simp, .inl ⟨_, _, rfl, run_takeDeferred hK2, ?_⟩⟩
        rw [HNX.out, HT.out]
        exact ⟨_, results_tmp rfl _ _ _, row_end (n1 := w.heap.size + 4) hK2 (show (W.drewN nq).ownsRow (w.heap.size + 4) 3 1 (.slice (some ⟨g, 0, none⟩) 2 c5) 2 [.int .i64 x, .int .i64 y] from HR.out) (below_drewN HB2.out _) (by omega) (by omega)⟩
    | x :: y :: z :: t, hpl, hrow, HNX => simp at hpl; omega
  case hstop => rintro D c pre W _ _ h _; exact h.elim
end Go.Proofs.Ytaomlfnffnapmaa
