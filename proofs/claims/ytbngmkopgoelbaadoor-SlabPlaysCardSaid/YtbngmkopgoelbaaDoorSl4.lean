import Derived.Test.YtbngmkopgoelbaaDoorSl3
import Derived.Test.YtbngmkopgoelbaaDoorSlMgB
import Derived.Test.YtbngmkopgoelbaaDoorFlY
import Derived.Maps.AppendAt
import Derived.Deep.DeepMust
import Derived.WalkSmall
import Derived.BigQuiet
import Derived.Deep.QuietTactic
import Derived.RegionTactic
/- The slab (layer 3): fresh. -/
set_option linter.unusedVariables false
set_option linter.unusedSimpArgs false
namespace Go.Proofs.YtbngmkopgoelbaaDoor
open Go.RowKit Go.Shelf
attribute [local go_sem] Oper.semAt_some

/-- A slab in memory, with its arena and its pool. -/
structure Sm (w : World) (s pa pd pp n : Nat) (bs : List Int) (f : Nat → Bool) (P : Nat → Pg) (u : Int) : Prop where
  sb : Sb w s pa pp P u
  ar : Ar w pa pd bs
  po : Po w pp n f

theorem blk_ne {w : World} {i j : Nat} {cs cs' : Array Value} {T T' : TypeId} {x y : Nat × Nat} (h : w.heap[i]? = some (.cells cs T x)) (h' : w.heap[j]? = some (.cells cs' T' y)) (hT : T ≠ T') : i ≠ j := by
  rintro rfl
  rw [h] at h'
  injection h' with h'
  injection h' with h1 h2 h3
  exact hT h2
theorem Sm.ne {w : World} {s pa pd pp n : Nat} {bs : List Int} {f : Nat → Bool} {P : Nat → Pg} {u : Int} (h : Sm w s pa pd pp n bs f P u) : s ≠ pa ∧ s ≠ pd ∧ s ≠ pp ∧ pa ≠ pp ∧ pd ≠ pp ∧ pa ≠ pd := by
  obtain ⟨cs, hs, _⟩ := h.sb.ex
  exact ⟨blk_ne hs h.ar.hdr (by decide), blk_ne hs h.ar.row (by decide), blk_ne hs h.po.blk (by decide), blk_ne h.ar.hdr h.po.blk (by decide), blk_ne h.ar.row h.po.blk (by decide), h.ar.ne⟩

theorem Sb.congr {w : World} {s pa pp : Nat} {P P' : Nat → Pg} {u : Int} (h : Sb w s pa pp P u) (e : ∀ i, i < 128 → P i = P' i) : Sb w s pa pp P' u := by
  obtain ⟨cs, hp, hs, h0, h1, hP, hu⟩ := h.ex
  exact ⟨cs, hp, hs, h0, h1, fun i hi => by rw [← e i hi]; exact hP i hi, hu⟩
theorem updP_same (P : Nat → Pg) (p : Nat) (x : Pg) : updP P p x p = x := by unfold updP; rw [if_pos rfl]
theorem updP_upd (P : Nat → Pg) (p : Nat) (x y : Pg) : updP (updP P p x) p y = updP P p y := by funext i; unfold updP; split <;> rfl
/-- A page stored. -/
theorem Sb.setPage {w : World} {s pa pp : Nat} {P : Nat → Pg} {u : Int} (h : Sb w s pa pp P u) (p : Nat) (hp : p < 128) (x : Pg) :
    Sb ((((w.setCell ⟨s, 2 + p * 4, none⟩ (.int .i64 x.c)).setCell ⟨s, 2 + p * 4 + 1, none⟩ (.int .u32 x.t)).setCell ⟨s, 2 + p * 4 + 2, none⟩ (.int .i64 x.m)).setCell ⟨s, 2 + p * 4 + 3, none⟩ (.int .i64 x.f)) s pa pp (updP P p x) u := by
  have h1 := h.setP p hp 0 (by omega) (.int .i64 x.c) ⟨x.c, (P p).t, (P p).m, (P p).f⟩ rfl rfl rfl rfl
  have h2 := h1.setP p hp 1 (by omega) (.int .u32 x.t) ⟨x.c, x.t, (P p).m, (P p).f⟩ (by rw [updP_same]; rfl) rfl (by rw [updP_same]; rfl) (by rw [updP_same]; rfl)
  have h3 := h2.setP p hp 2 (by omega) (.int .i64 x.m) ⟨x.c, x.t, x.m, (P p).f⟩ (by rw [updP_same]; rfl) (by rw [updP_same]; rfl) rfl (by rw [updP_same]; rfl)
  have h4 := h3.setP p hp 3 (by omega) (.int .i64 x.f) x (by rw [updP_same]; rfl) (by rw [updP_same]; rfl) (by rw [updP_same]; rfl) rfl
  rw [updP_upd, updP_upd, updP_upd] at h4
  exact h4

/-- What but some blocks lies as it lay. -/
structure Fr (S : Nat → Prop) (w w' : World) : Prop where
  os : w'.os = w.os
  tape : w'.tape = w.tape
  output : w'.output = w.output
  size : w.heap.size ≤ w'.heap.size
  block : ∀ i, i < w.heap.size → ¬ S i → w'.heap[i]? = w.heap[i]?
section
variable {S : Nat → Prop} {a b c : World}
theorem Fr.refl (S : Nat → Prop) (a : World) : Fr S a a := ⟨rfl, rfl, rfl, Nat.le_refl _, fun _ _ _ => rfl⟩
theorem Fr.trans (h : Fr S a b) (k : Fr S b c) : Fr S a c := ⟨k.os.trans h.os, k.tape.trans h.tape, k.output.trans h.output, Nat.le_trans h.size k.size, fun i hi hs => (k.block i (Nat.lt_of_lt_of_le hi h.size) hs).trans (h.block i hi hs)⟩
theorem Fr.of_below (h : Below a.heap.size a b) : Fr S a b := ⟨h.os, h.tape, h.output, h.size, fun i hi _ => h.block i hi⟩
theorem Fr.of_grown {r : Option Nat} (h : a.grownBy b r) (hr : ∀ j, r = some j → a.heap.size ≤ j ∨ S j) : Fr S a b := ⟨h.os, h.tape, h.output, h.size, fun i hi hs => h.block i hi (fun e => by rcases hr i e.symm with h1 | h1; omega; exact hs h1)⟩
theorem Fr.set (o : Nat) (j : Nat) (v : Value) (h : S j) : Fr S a (a.setCell ⟨j, o, none⟩ v) := ⟨rfl, rfl, rfl, by simp [World.setCell], fun i hi hs => Below.heap_setCell _ _ _ i (fun e => hs (by have : i = j := e; rw [this]; exact h))⟩
theorem Fr.drew : Fr S a a.drew := ⟨rfl, rfl, rfl, Nat.le_refl _, fun _ _ _ => rfl⟩
end
/-- The blocks of a slab that its functions turn. -/
def S3 (s pd pp : Nat) : Nat → Prop := fun i => i = s ∨ i = pd ∨ i = pp

/-- Between two rounds. -/
structure FI (bs : List Int) (p c : Nat) (w1 : World) (s pa pd B0 Bn : Nat) (pre : List Int) (W : World) : Prop where
  ex : ∃ bs' nx, Ar W pa pd bs' ∧ bs'.length = bs.length ∧ (∀ j, j < 512 * p ∨ 512 * p + 512 ≤ j → gb bs' j = gb bs j) ∧ Boxed W Bn 3 (.int .i64 nx) ∧ 0 ≤ nx ∧ nx < 65536 ∧
    (pre = XS p c pre.length → linked bs' (lastk p c pre.length) ∧ nx = (((lastk p c pre.length).headD 0 : Nat) : Int))
  b0 : Boxed W B0 24 (.pointer (some ⟨s, 0, none⟩))
  gr : w1.grownBy W (some pd)
  sz : w1.heap.size + 3 ≤ W.heap.size
theorem xs1_nat {p c k : Nat} (hc : isC c) (h : k < 512 / c) : xs1 p c k = ((512 * p + 512 - c * (k + 1) : Nat) : Int) := by
  unfold xs1
  rcases hc with rfl | rfl | rfl | rfl | rfl <;> omega
theorem lastk_apart {p c k b : Nat} (hc : isC c) (h : k < 512 / c) (hb : b ∈ lastk p c k) : 512 * p + 512 - c * (k + 1) + 4 ≤ b := by
  obtain ⟨j, hj, rfl⟩ := lastk_mem p c hb
  rcases hc with rfl | rfl | rfl | rfl | rfl <;> omega
theorem snoc_inj {xs ys : List Int} {x y : Int} (h : xs ++ [x] = ys ++ [y]) : xs = ys ∧ x = y := by
  have := List.append_inj' h rfl
  exact ⟨this.1, by injection this.2⟩
theorem heap_cell {w w' : World} {i : Nat} (h : w'.heap[i]? = w.heap[i]?) (o : Nat) : w'.cell? ⟨i, o, none⟩ = w.cell? ⟨i, o, none⟩ := by unfold World.cell?; rw [show w'.heap[(⟨i, o, none⟩ : Addr).block]? = w.heap[(⟨i, o, none⟩ : Addr).block]? from h]
/-- One round more. -/
theorem FI.next {bs' : List Int} {p c : Nat} {nx x : Int} {pre : List Int} {n : Nat} (hC : isC c) (hp : p < n) (kl : bs'.length = 512 * n) (hN : pre.length < 512 / c) (hp' : n ≤ 128)
    (kk : pre = XS p c pre.length → linked bs' (lastk p c pre.length) ∧ nx = (((lastk p c pre.length).headD 0 : Nat) : Int)) (h : pre ++ [x] = XS p c (pre ++ [x]).length) :
    linked (stA bs' x 4 nx) (lastk p c (pre ++ [x]).length) ∧ x = (((lastk p c (pre ++ [x]).length).headD 0 : Nat) : Int) := by
  have hl : (pre ++ [x]).length = pre.length + 1 := by simp
  rw [hl] at h ⊢
  rw [XS_succ] at h
  obtain ⟨h1, h2⟩ := snoc_inj h
  obtain ⟨k1, k2⟩ := kk h1
  have e := xs1_nat (p := p) hC hN
  rw [h2, e]
  refine ⟨?_, rfl⟩
  have hc := hC.pos
  have hin := xs1_in (p := p) hC hN
  rw [k2]
  refine linked_store (by omega) (fun b hb => .inr (lastk_apart hC hN hb)) ?_ rfl k1
  cases hq : lastk p c pre.length with
  | nil => simp
  | cons y l =>
    have : y ∈ lastk p c pre.length := by rw [hq]; exact List.mem_cons_self ..
    obtain ⟨j, hj, e⟩ := lastk_mem p c this
    show y < 65536
    rw [Nat.mul_succ] at e
    omega
theorem boxed_turn {X Y : World} {B : Nat} {t : TypeId} {v : Value} {row : Option Nat} (h : Boxed X B t v) (hg : X.grownBy Y row) (hr : row ≠ some B) : Boxed Y B t v :=
  h.kept hg (fun e' => hr e'.symm)
theorem grown_then {a b c : World} {r r' : Option Nat} (h : a.grownBy b r) (k : b.grownBy c r') (hr : ∀ j, r' = some j → a.heap.size ≤ j ∨ r = some j) : a.grownBy c r :=
  ⟨k.os.trans h.os, k.tape.trans h.tape, k.output.trans h.output, Nat.le_trans h.size k.size, fun i hi hne => (k.block i (Nat.lt_of_lt_of_le hi h.size) (fun e => by rcases hr i e.symm with h1 | h1; omega; exact hne h1.symm)).trans (h.block i hi hne)⟩
theorem FI.turn {bs : List Int} {p c : Nat} {w1 : World} {s pa pd B0 Bn N : Nat} {pre : List Int} {X Y : World} {row : Option Nat} (h : FI bs p c w1 s pa pd B0 Bn pre X) (hg : X.grownBy Y row) (hr : ∀ r, row = some r → N ≤ r) (h1 : pa < N) (h2 : pd < N) (h3 : B0 < N) (h4 : Bn < N) (h5 : w1.heap.size ≤ N) : FI bs p c w1 s pa pd B0 Bn pre Y := by
  obtain ⟨bs', nx, k1, k2, k3, k4, k5⟩ := h.ex
  have hne : ∀ j, j < N → row ≠ some j := fun j hj e => by have := hr j e; omega
  exact ⟨⟨bs', nx, ⟨(hg.block pa k1.lt.1 (fun e => hne pa h1 e.symm)).trans k1.hdr, (hg.block pd k1.lt.2 (fun e => hne pd h2 e.symm)).trans k1.row, k1.ne, k1.len, k1.rng⟩, k2, k3, boxed_turn k4 hg (hne _ h4), k5⟩, boxed_turn h.b0 hg (hne _ h3), grown_then h.gr hg (fun j e => .inl (by have := hr j e; omega)), Nat.le_trans h.sz hg.size⟩

/-- The region in the round. -/
def fval (s pa : Nat) (x nx : Int) : Nat → Value
  | 0 | 1 | 2 => .pointer (some ⟨s, 0, none⟩)
  | 3 => .pointer (some ⟨pa, 0, none⟩)
  | 4 => .int .i64 x
  | 5 => .int .i64 nx
  | _ => .int .u64 nx
structure FBase (B0 Bn : Nat) (x : Int) (a : Act) : Prop where
  size : a.tmps.size = 43
  s2 : a.tmps.getD 2 undef = .pointer (some ⟨B0, 0, none⟩)
  s8 : a.tmps.getD 8 undef = .pointer (some ⟨Bn, 0, none⟩)
  s9 : a.tmps.getD 9 undef = .int .i64 x
theorem put_getD (a : Act) (d t : Nat) (v : Value) (hd : d < a.tmps.size) : (a.put (some d) v).tmps.getD t undef = if d = t then v else a.tmps.getD t undef := by
  show (a.tmps.setIfInBounds d v).getD t undef = _
  rw [Array.getD_eq_getD_getElem?, Array.getD_eq_getD_getElem?, Array.getElem?_setIfInBounds]
  by_cases h : d = t
  · subst h; rw [if_pos rfl, if_pos rfl, if_pos hd]; rfl
  · rw [if_neg h, if_neg h]
theorem FBase.put {B0 Bn : Nat} {x : Int} {i : Nat} {a : Act} (h : FBase B0 Bn x a) (hi : i < 7) (v : Value) : FBase B0 Bn x (a.put (some (25 + i)) v) ∧ (a.put (some (25 + i)) v).tmps.getD (25 + i) undef = v ∧ ∀ t, t < 7 → t ≠ i → (a.put (some (25 + i)) v).tmps.getD (25 + t) undef = a.tmps.getD (25 + t) undef := by
  have hs := h.size
  refine ⟨⟨by show (a.tmps.setIfInBounds _ _).size = 43; simpa using hs, ?_, ?_, ?_⟩, ?_, fun t ht hne => ?_⟩
  · rw [put_getD _ _ _ _ (by omega), if_neg (by omega)]; exact h.s2
  · rw [put_getD _ _ _ _ (by omega), if_neg (by omega)]; exact h.s8
  · rw [put_getD _ _ _ _ (by omega), if_neg (by omega)]; exact h.s9
  · rw [put_getD _ _ _ _ (by omega), if_pos rfl]
  · rw [put_getD _ _ _ _ (by omega), if_neg (by omega)]

set_option maxRecDepth 100000 in
set_option maxHeartbeats 1000000 in
theorem fresh_ok {w : World} {s pa pd pp n : Nat} {bs : List Int} {f : Nat → Bool} {P : Nat → Pg} {u : Int} (S : Sm w s pa pd pp n bs f P u) (T : Tb w) (c a : Nat) (hC : isC c) (hlen : bs.length = 512 * n) (ha : a < n) (hf : f a = false) (hl : ∀ i, i < a → f i = true) :
    Calls Tryd.prog 32 #[.pointer (some ⟨s, 0, none⟩), .int .i64 (c : Int)] w fun e w' => e = .returned (.tuple #[.int .i64 (a : Int), .int .i64 0]) ∧
      ∃ bs', Sm w' s pa pd pp n bs' (fun i => f i || i == a) (updP P a ⟨c, 0, 0, 512 * a⟩) u ∧ bs'.length = bs.length ∧ linked bs' (blks a c) ∧ (∀ j, j < 512 * a ∨ 512 * a + 512 ≤ j → gb bs' j = gb bs j) ∧ Fr (S3 s pd pp) w w' := by
  have HS := Lib.hid S
  have hne := S.ne
  have T1 : Tb (w.alloc (.cells #[.pointer (some ⟨s, 0, none⟩)] 24)) := T.below ((Below.refl _ w).alloc (Nat.le_refl _) _) T.lt
  have B1 := (Below.refl _ w).alloc (Nat.le_refl _) (.cells #[.pointer (some ⟨s, 0, none⟩)] 24)
  have P1 := Lib.hid (S.po.below B1)
  have A1 := Lib.hid (S.ar.below B1)
  have S1 := Lib.hid (S.sb.below B1)
  have cs1 := S1.out.c1
  have HT1 := Lib.hid T1
  have n128 := S.po.len
  clear S T T1 B1
  refine calls_marks Tryd.func32 rfl ?_
  simp only [Tryd.ntmps32, List.size_toArray, List.length_cons, List.length_nil, Nat.reduceAdd, Nat.reduceSub, Array.replicate_succ, Array.replicate_zero, List.push_toArray, List.append_toArray, List.nil_append, List.cons_append]
  go_wp2_with fail
  refine (Take_at P1.out HT1.out a ha hf hl).mono ?_
  rintro e w1 ⟨rfl, hPo, hg1⟩
  go_wp2_with fail
  refine (blocks_plain (a : Int) (c : Int) _).mono ?_
  rintro e w2 ⟨rfl, rfl⟩
  go_wp2_with fail
  have hs1 : w.heap.size + 1 ≤ w1.heap.size := by have := hg1.size; rwa [World.size_alloc] at this
  have SB := Lib.hid (S1.out.other hg1 (fun e => hne.2.2.1 (by injection e with e; exact e.symm)))
  have AR : Hid (Ar w1 pa pd bs) := Lib.hid ⟨(hg1.block pa A1.out.lt.1 (fun e => hne.2.2.2.1 (by injection e))).trans A1.out.hdr, (hg1.block pd A1.out.lt.2 (fun e => hne.2.2.2.2.1 (by injection e))).trans A1.out.row, A1.out.ne, A1.out.len, A1.out.rng⟩
  have b0 : Boxed w1 w.heap.size 24 (.pointer (some ⟨s, 0, none⟩)) := (Boxed.new w _ _).kept hg1 (fun e => by have := P1.out.lt; injection e with e; have := HS.out.po.lt; omega)
  obtain ⟨W1, hW1⟩ : ∃ W1, W1 = ((w1.alloc (Obj.cells #[Value.int IntKind.i64 0] 3)).alloc (Obj.cells #[Value.int IntKind.i64 (a : Int)] 3)).alloc (Obj.cells #[Value.int IntKind.i64 (c : Int)] 3) := ⟨_, rfl⟩
  rw [← hW1]
  have hsz : W1.heap.size = w1.heap.size + 3 := by rw [hW1]; simp
  have bN : Boxed W1 w1.heap.size 3 (.int .i64 0) := by rw [hW1]; exact ((Boxed.new w1 _ _).alloc _).alloc _
  have bP : Boxed W1 (w1.heap.size + 1) 3 (.int .i64 (a : Int)) := by
    rw [hW1]; have := Boxed.new (w1.alloc (.cells #[.int .i64 0] 3)) 3 (.int .i64 (a : Int)); rw [World.size_alloc] at this; exact this.alloc _
  have bC : Boxed W1 (w1.heap.size + 2) 3 (.int .i64 (c : Int)) := by
    rw [hW1]; have := Boxed.new ((w1.alloc (.cells #[.int .i64 0] 3)).alloc (.cells #[.int .i64 (a : Int)] 3)) 3 (.int .i64 (c : Int)); rw [World.size_alloc, World.size_alloc] at this; exact this
  have hB : Below w1.heap.size w1 W1 := by rw [hW1]; exact (((Below.refl _ w1).alloc (Nat.le_refl _) _).alloc (by simp) _).alloc (by simp; omega) _
  have b01 : Boxed W1 w.heap.size 24 (.pointer (some ⟨s, 0, none⟩)) := by rw [hW1]; exact ((b0.alloc _).alloc _).alloc _
  have hlt := AR.out.lt
  have hltw := HS.out.ar.lt
  have hltp := HS.out.po.lt
  have hlts := HS.out.sb.lt
  clear hW1
  apply wp_range_blks (w := W1) (Bp := w1.heap.size + 1) (Bc := w1.heap.size + 2) (p := a) (c := c) rfl (by omega) (by omega) hC (by omega) bP.cell bC.cell
    (fun pre W => FI bs a c w1 s pa pd w.heap.size w1.heap.size pre W)
  case hassign =>
    intro l x W K hK
    gi_wp2
    exact hK
  case hI => exact fun pre X Y row hs hg hr => hs.turn (N := W1.heap.size) hg (fun r e => (hr r e).1) (by omega) (by omega) (by omega) (by omega) (by omega)
  case h0 => exact ⟨⟨bs, 0, AR.out.below hB, rfl, fun _ _ => rfl, bN, by omega, by omega, fun _ => ⟨trivial, rfl⟩⟩, b01, only_of_below hB _, by omega⟩
  case hbody =>
    rintro l pre x W hI hltN hx
    obtain ⟨bs', nx, kA, kl, ko, kN, kn0, kn1, kk⟩ := hI.ex
    have hx1 : 512 * (a : Int) ≤ x ∧ x + c ≤ 512 * a + 512 := by
      obtain ⟨k, hk, rfl⟩ := List.mem_map.1 hx
      exact xs1_in hC (List.mem_range.1 hk)
    obtain ⟨hx2, hx3⟩ := hx1
    have cpos := hC.pos
    have cB0 := hI.b0.cell
    have cBn := kN.cell
    have cs0 := (SB.out.other hI.gr (fun e => hne.2.1 (by injection e with e; exact e.symm))).c0
    have HI := Lib.hid hI
    have KK := Lib.hid kk
    have KA := Lib.hid kA
    have KO := Lib.hid ko
    have KN := Lib.hid kN
    have HX := Lib.hid hx
    clear hI kk kA ko kN hx
    have en : IntKind.u64.wrap nx = nx := by rw [IntKind.wrap_u64]; omega
    gi_wp2
    refine region_reads (by kernel_rfl) 7 rfl (fun i => 25 + i) (fval s pa x nx) (FBase w.heap.size w1.heap.size x) ?hdst ?hput ?hstep ?hlast ?hgl ?hcl ?hb
    case hb => exact ⟨rfl, rfl, rfl, rfl⟩
    case hput => exact fun a i hi hb => hb.put hi _
    case hdst =>
      intro i o hi ho
      have : i = 0 ∨ i = 1 ∨ i = 2 ∨ i = 3 ∨ i = 4 ∨ i = 5 ∨ i = 6 := by omega
      rcases this with rfl | rfl | rfl | rfl | rfl | rfl | rfl <;> (obtain rfl := Option.some.inj ho; exact ⟨rfl, rfl, by simp⟩)
    case hgl =>
      intro o ho
      obtain rfl := Option.some.inj ho
      exact ⟨rfl, by simp⟩
    case hcl =>
      intro p h1 h2
      have h3 := h2 _ rfl
      simp [Region.binds] at h3
      obtain ⟨p3, p4, p6⟩ := h3
      have p2 := h1 3 _ rfl p3
      have p5 := h1 6 _ rfl p6
      simp [Region.binds] at p2 p5
      have p1 := h1 2 _ rfl p2
      simp [Region.binds] at p1
      have p0 := h1 1 _ rfl p1
      simp [Region.binds] at p0
      intro j hj
      have : j = 0 ∨ j = 1 ∨ j = 2 ∨ j = 3 ∨ j = 4 ∨ j = 5 ∨ j = 6 := by omega
      rcases this with rfl | rfl | rfl | rfl | rfl | rfl | rfl <;> assumption
    case hstep =>
      intro i o a K hi ho hb hdep hk2
      obtain ⟨z0, z2, z8, z9⟩ := hb
      have : i = 0 ∨ i = 1 ∨ i = 2 ∨ i = 3 ∨ i = 4 ∨ i = 5 ∨ i = 6 := by omega
      rcases this with rfl | rfl | rfl | rfl | rfl | rfl | rfl
      all_goals
        obtain rfl := Option.some.inj ho
        simp [Region.binds, fval] at hdep hk2
        simp [z0] at z2 z8 z9 hdep
        go_simp
        exact hk2
    case hlast =>
      intro o a' K ho hb hv hk2
      obtain ⟨z0, z2, z8, z9⟩ := hb
      have y3 := hv 3 (by omega)
      have y4 := hv 4 (by omega)
      have y6 := hv 6 (by omega)
      obtain rfl := Option.some.inj ho
      simp [fval, z0] at y3 y4 y6
      simp [z0] at z2 z8 z9
      clear hv
      clear ho
      go_simp
      refine ⟨trivial, (CallsIn.inRound l (callsIn_wide.2 (Store_any x 4 nx W.drew ⟨KA.out.hdr, KA.out.row, KA.out.ne, KA.out.len, KA.out.rng⟩ kn0))).mono ?_⟩
      rintro e w4 ⟨rfl, hA4, hg4⟩
      have hpdn : w1.heap.size ≠ pd := by omega
      have kN0 : Boxed W.drew w1.heap.size 3 (.int .i64 nx) := KN.out
      have kN4 : Boxed w4 w1.heap.size 3 (.int .i64 nx) := kN0.kept hg4 (fun e => hpdn (by injection e))
      have cB4 := kN4.cell
      have fB4 := kN4.frozen
      have KN4 := Lib.hid kN4
      clear kN4 kN0
      have HA4 := Lib.hid hA4
      have HG4 := Lib.hid hg4
      clear hA4 hg4
      go_simp
      refine hk2 _ _ ?_
      gi_wp2
      have hsz4 : W.heap.size ≤ w4.heap.size := HG4.out.size
      have hszW := HI.out.sz
      have keep : ∀ i, i < W.heap.size → i ≠ pd → i ≠ w1.heap.size → (w4.setCell ⟨w1.heap.size, 0, none⟩ (.int .i64 x)).heap[i]? = W.heap[i]? := fun i h1 h2 h3 =>
        (Below.heap_setCell _ _ _ i (fun e => h3 e)).trans (HG4.out.block i h1 (fun e => h2 (by injection e)))
      refine ⟨((KeepsOthers.drew W).from _).trans ((KeepsFrom.of_grownBy HG4.out (fun j e => by injection e with e; omega)).trans ((KeepsOthers.setCell _ _ _).from _)), ⟨heap_cell (keep _ (by omega) (by omega) (by omega)) 0, heap_cell (keep _ (by omega) (by omega) (by omega)) 0⟩, ?_⟩
      refine ⟨⟨stA bs' x 4 nx, x, ⟨(Below.heap_setCell _ _ _ pa (by show pa ≠ w1.heap.size; omega)).trans HA4.out.hdr, (Below.heap_setCell _ _ _ pd (by show pd ≠ w1.heap.size; omega)).trans HA4.out.row, HA4.out.ne, HA4.out.len, HA4.out.rng⟩, (stA_length _ _ _ _).trans kl, ?_, KN4.out.set _, by omega, by omega, ?_⟩, ?_, ?_, ?_⟩
      · intro j hj
        obtain ⟨X, rfl⟩ := Int.eq_ofNat_of_zero_le (show 0 ≤ x by omega)
        rw [gb_stA _ _ _ _ (by omega)]
        exact KO.out j hj
      · exact FI.next hC ha (kl.trans hlen) hltN n128 KK.out
      · exact (keep _ (by omega) (by omega) (by omega)).trans HI.out.b0
      · exact grown_then (grown_then HI.out.gr (c := w4) (r' := some pd) ⟨HG4.out.os, HG4.out.tape, HG4.out.output, HG4.out.size, HG4.out.block⟩ (fun j e => .inr e)) (grownBy_setCell' w4 w1.heap.size _) (fun j e => .inl (by injection e with e; omega))
      · simp; omega
  case hdone =>
    rintro D W hD hI hK
    obtain ⟨bs', nx, kA, kl, ko, kN, kn0, kn1, kk⟩ := hI.ex
    rw [XS_length] at kk
    obtain ⟨kk1, kk2⟩ := kk rfl
    rw [lastk_all hC] at kk1 kk2
    have cB0 := hI.b0.cell
    have cBn := kN.cell
    have SW := SB.out.other hI.gr (fun e => hne.2.1 (by injection e with e; exact e.symm))
    have ca := SW.pg a (by omega)
    obtain ⟨c0, c1, c2, c3⟩ := ca
    have HI := Lib.hid hI
    have HSW := Lib.hid SW
    have KA := Lib.hid kA
    have KO := Lib.hid ko
    have KN := Lib.hid kN
    have KK1 := Lib.hid kk1
    have KK2 := Lib.hid kk2
    have HK := Lib.hid hK
    have fz := fun i => SW.frozen i
    clear hI kA ko kN kk1 kk2 hK SW kk
    have hai : (a : Int) < 128 := by omega
    go_wp2
    go_region
    all_goals go_wp2
    have hne' := hne
    obtain ⟨l, hbl⟩ := blks_cons (p := a) hC
    have hnx : nx = 512 * (a : Int) := by rw [KK2.out, hbl]; simp
    have key := HSW.out.setPage a (by omega) ⟨(c : Int), 0, 0, nx⟩
    have hDs : D ≠ s ∧ D ≠ pa ∧ D ≠ pd ∧ D ≠ pp := ⟨by omega, by omega, by omega, by omega⟩
    have hsW := HI.out.sz
    obtain ⟨W3, hW3⟩ : ∃ W3, W3 = ((((W.setCell ⟨s, 2 + a * 4, none⟩ (.int .i64 (c : Int))).setCell ⟨s, 2 + a * 4 + 1, none⟩ (.int .u32 0)).setCell ⟨s, 2 + a * 4 + 2, none⟩ (.int .i64 0)).setCell ⟨s, 2 + a * 4 + 3, none⟩ (.int .i64 nx)) := ⟨_, rfl⟩
    rw [← hW3] at key ⊢
    have k3 : ∀ i, i ≠ s → W3.heap[i]? = W.heap[i]? := fun i hi => by
      rw [hW3]
      exact (Below.heap_setCell _ _ _ i hi).trans ((Below.heap_setCell _ _ _ i hi).trans ((Below.heap_setCell _ _ _ i hi).trans (Below.heap_setCell _ _ _ i hi)))
    have z3 : W3.heap.size = W.heap.size := by rw [hW3]; simp
    have o3 : W3.os = W.os ∧ W3.tape = W.tape ∧ W3.output = W.output := by rw [hW3]; exact ⟨rfl, rfl, rfl⟩
    clear hW3
    have hK3 : W3.drew.heap[D]? = some (.deferred (some [])) := (k3 D hDs.1).trans HK.out
    refine ⟨by simp, .inl ⟨_, _, rfl, run_takeDeferred hK3, ?_⟩⟩
    refine ⟨_, results_tmp2 rfl _ _ _, rfl, bs', ⟨?_, ?_, ?_⟩, kl, KK1.out, KO.out, ?_⟩
    · rw [hnx] at key
      exact key.turn (World.putObj_heap_other (w := W3.drew) (fun e => hDs.1 e.symm))
    · have e : ∀ i, i ≠ s → D ≠ i → (W3.drew.putObj D (.deferred none)).heap[i]? = W.heap[i]? := fun i h1 h2 => (World.putObj_heap_other (w := W3.drew) (fun e => h2 e.symm)).trans (k3 i h1)
      exact ⟨(e pa (fun e => hne'.1 e.symm) hDs.2.1).trans KA.out.hdr, (e pd (fun e => hne'.2.1 e.symm) hDs.2.2.1).trans KA.out.row, KA.out.ne, KA.out.len, KA.out.rng⟩
    · refine ⟨?_, hPo.len, hPo.out⟩
      refine ((World.putObj_heap_other (w := W3.drew) (fun e => hDs.2.2.2 e.symm)).trans ((k3 pp (fun e => hne'.2.2.1 e.symm)).trans ?_)).trans hPo.blk
      exact HI.out.gr.block pp hPo.lt (fun e => hne'.2.2.2.2.1 (by injection e with e; exact e.symm))
    · have hg := HI.out.gr
      refine ⟨?_, ?_, ?_, ?_, fun i hi hs => ?_⟩
      · exact o3.1.trans (hg.os.trans hg1.os)
      · exact o3.2.1.trans (hg.tape.trans hg1.tape)
      · exact o3.2.2.trans (hg.output.trans hg1.output)
      · have := hg.size
        show w.heap.size ≤ (W3.drew.putObj D (.deferred none)).heap.size
        simp [World.putObj]
        show w.heap.size ≤ W3.heap.size
        omega
      · have h1 : i ≠ s := fun e => hs (.inl e)
        have h2 : i ≠ pd := fun e => hs (.inr (.inl e))
        have h3 : i ≠ pp := fun e => hs (.inr (.inr e))
        refine (World.putObj_heap_other (w := W3.drew) (by omega)).trans ((k3 i h1).trans ((hg.block i (by omega) (fun e => h2 (by injection e))).trans ((hg1.block i (by rw [World.size_alloc]; omega) (fun e => h3 (by injection e))).trans ?_)))
        exact Below.heap_alloc _ _ _ hi
theorem fresh_full {w : World} {s pa pd pp n : Nat} {bs : List Int} {f : Nat → Bool} {P : Nat → Pg} {u : Int} (S : Sm w s pa pd pp n bs f P u) (T : Tb w) (c : Int) (hl : ∀ i, i < n → f i = true) :
    Calls Tryd.prog 32 #[.pointer (some ⟨s, 0, none⟩), .int .i64 c] w fun e w' => e = .returned (.tuple #[.int .i64 0, .int .i64 5]) ∧ Below w.heap.size w w' := by
  have B1 := (Below.refl _ w).alloc (Nat.le_refl _) (.cells #[.pointer (some ⟨s, 0, none⟩)] 24)
  have T1 := Lib.hid (T.below B1 T.lt)
  have P1 := Lib.hid (S.po.below B1)
  have cs1 := (S.sb.below B1).c1
  have HB := Lib.hid B1
  clear S T B1
  go_enter Tryd.func32, Tryd.ntmps32
  go_wp2_with fail
  refine (Take_full P1.out T1.out hl).mono ?_
  rintro e w1 ⟨rfl, rfl⟩
  go_wp2
  go_ret2
  exact ⟨rfl, HB.out⟩
end Go.Proofs.YtbngmkopgoelbaaDoor
