/- Plain: a slab's pages and their free blocks. -/
import Derived.Test.YtbngmkopgoelbaaDoorPoolM
set_option linter.unusedVariables false
set_option linter.unusedSimpArgs false
namespace Go.Proofs.YtbngmkopgoelbaaDoor

/-- A page: its class (0: nobody's), its free blocks, the next one first. -/
structure Ap where
  c : Nat
  fl : List Nat

def upd (A : Nat → Ap) (p : Nat) (x : Ap) : Nat → Ap := fun i => if i = p then x else A i
theorem upd_same (A : Nat → Ap) (p : Nat) (x : Ap) : upd A p x p = x := by unfold upd; rw [if_pos rfl]
theorem upd_other (A : Nat → Ap) {p i : Nat} (x : Ap) (h : i ≠ p) : upd A p x i = A i := by unfold upd; rw [if_neg h]
def isC (c : Nat) : Prop := c = 16 ∨ c = 32 ∨ c = 64 ∨ c = 128 ∨ c = 256
def cls (m : Nat) : Nat := if m ≤ 16 then 16 else if m ≤ 32 then 32 else if m ≤ 64 then 64 else if m ≤ 128 then 128 else 256
theorem cls_isC (m : Nat) : isC (cls m) := by
  unfold cls isC
  by_cases h1 : m ≤ 16 <;> by_cases h2 : m ≤ 32 <;> by_cases h3 : m ≤ 64 <;> by_cases h4 : m ≤ 128 <;> simp [h1, h2, h3, h4]
theorem cls_ge {m : Nat} (h : m ≤ 256) : m ≤ cls m := by
  unfold cls
  by_cases h1 : m ≤ 16 <;> by_cases h2 : m ≤ 32 <;> by_cases h3 : m ≤ 64 <;> by_cases h4 : m ≤ 128 <;> simp only [h1, h2, h3, h4, if_true, if_false] <;> omega
theorem cls_lt {m : Nat} (h : 16 < cls m) : cls m < 2 * m := by
  unfold cls at *
  by_cases h1 : m ≤ 16 <;> by_cases h2 : m ≤ 32 <;> by_cases h3 : m ≤ 64 <;> by_cases h4 : m ≤ 128 <;> simp only [h1, h2, h3, h4, if_true, if_false] at h ⊢ <;> omega
theorem isC.pos {c : Nat} (h : isC c) : 16 ≤ c ∧ c ≤ 256 := by unfold isC at h; omega
theorem isC.div {c : Nat} (h : isC c) : c * (512 / c) = 512 ∧ 512 / c ≤ 32 ∧ 2 ≤ 512 / c := by rcases h with rfl | rfl | rfl | rfl | rfl <;> decide

/-- The blocks of a page. -/
def blks (p c : Nat) : List Nat := (List.range (512 / c)).map (fun k => 512 * p + c * k)
theorem mem_blks {p c a : Nat} (hc : isC c) : a ∈ blks p c ↔ a / 512 = p ∧ a % c = 0 := by
  unfold blks
  rw [List.mem_map]
  constructor
  · rintro ⟨k, hk, rfl⟩
    rw [List.mem_range] at hk
    rcases hc with rfl | rfl | rfl | rfl | rfl <;> omega
  · rintro ⟨h1, h2⟩
    refine ⟨a % 512 / c, ?_, ?_⟩
    · rw [List.mem_range]
      rcases hc with rfl | rfl | rfl | rfl | rfl <;> omega
    · rcases hc with rfl | rfl | rfl | rfl | rfl <;> omega
theorem nodup_blks {p c : Nat} (hc : isC c) : (blks p c).Nodup := by
  unfold blks
  rw [List.nodup_iff_pairwise_ne, List.pairwise_map]
  refine List.Pairwise.imp ?_ (List.pairwise_lt_range (n := 512 / c))
  intro a b hab e
  rcases hc with rfl | rfl | rfl | rfl | rfl <;> omega
theorem blks_cons {p c : Nat} (hc : isC c) : ∃ l, blks p c = (512 * p) :: l := by
  unfold blks
  obtain ⟨k, hk⟩ : ∃ k, 512 / c = k + 1 := ⟨512 / c - 1, by have := hc.div; omega⟩
  rw [hk, List.range_succ_eq_map]
  exact ⟨_, rfl⟩

/-- The place of a page that has one of a class free; else a fresh one. -/
def hit (A : Nat → Ap) (n c : Nat) : Option Nat := (List.range n).find? (fun p => (A p).c == c && !((A p).fl.isEmpty))
def fre (A : Nat → Ap) (n : Nat) : Option Nat := (List.range n).find? (fun p => p != 0 && (A p).c == 0)
def spot (A : Nat → Ap) (n c : Nat) : Option (Nat × List Nat) := match hit A n c with
  | some p => some (p, (A p).fl)
  | none => (fre A n).map (fun p => (p, blks p c))
def allc (A : Nat → Ap) (n c : Nat) : Option (Nat × (Nat → Ap)) := (spot A n c).map (fun x => (x.2.headD 0, upd A x.1 ⟨c, x.2.tail⟩))

theorem find_range {P : Nat → Bool} {n r : Nat} : (List.range n).find? P = some r ↔ r < n ∧ P r = true ∧ ∀ j, j < r → P j = false := by
  induction n with
  | zero => simp
  | succ n ih =>
    rw [List.range_succ, List.find?_append]
    cases hf : (List.range n).find? P with
    | some q =>
      rw [hf] at ih
      simp only [Option.some_or, Option.some.injEq] at ih ⊢
      constructor
      · intro e; have := ih.1 e; exact ⟨by omega, this.2⟩
      · rintro ⟨h1, h2, h3⟩
        have hq := List.find?_eq_some_iff_append.1 hf
        rcases Nat.lt_or_ge r n with hlt | hge
        · exact ih.2 ⟨hlt, h2, h3⟩
        · have hmem : q ∈ List.range n := List.mem_of_find?_eq_some hf
          rw [List.mem_range] at hmem
          have := h3 q (by omega)
          rw [hq.1] at this; cases this
    | none =>
      rw [hf] at ih
      rw [List.find?_eq_none] at hf
      simp only [Option.none_or, List.find?_cons, List.find?_nil]
      by_cases hn : P n = true
      · rw [hn]
        simp only [Option.some.injEq]
        constructor
        · rintro rfl
          exact ⟨by omega, hn, fun j hj => by have := hf j (List.mem_range.2 hj); simpa using this⟩
        · rintro ⟨h1, h2, h3⟩
          rcases Nat.lt_or_ge r n with hlt | hge
          · exact absurd h2 (hf r (List.mem_range.2 hlt))
          · omega
      · have hn' : P n = false := by simpa using hn
        rw [hn']
        simp only [reduceCtorEq, false_iff]
        rintro ⟨h1, h2, h3⟩
        rcases Nat.lt_or_ge r n with hlt | hge
        · exact absurd h2 (hf r (List.mem_range.2 hlt))
        · obtain rfl : r = n := by omega
          rw [hn'] at h2; cases h2
theorem find_range_none {P : Nat → Bool} {n : Nat} : (List.range n).find? P = none ↔ ∀ j, j < n → P j = false := by
  rw [List.find?_eq_none]
  constructor
  · intro h j hj; have := h j (List.mem_range.2 hj); simpa using this
  · intro h j hj; have := h j (List.mem_range.1 hj); simp [this]

/-- Which of a page's blocks are taken. -/
def gP (x : Ap) (p : Nat) : Nat → Bool := fun r => decide (r < 512 / x.c) && !(x.fl.contains (512 * p + x.c * r))
def g (A : Nat → Ap) (p : Nat) : Nat → Bool := gP (A p) p
def tw (x : Ap) (p : Nat) : Nat := wd (gP x p) 32
def mny (x : Ap) (p : Nat) : Nat := cnt (gP x p) 32
/-- Is a block taken? -/
def tkn (A : Nat → Ap) (a : Nat) : Bool := (A (a / 512)).c != 0 && a % (A (a / 512)).c == 0 && !((A (a / 512)).fl.contains a)
/-- A block is free again. -/
def frd (A : Nat → Ap) (a : Nat) : Nat → Ap :=
  if mny (A (a / 512)) (a / 512) = 1 then upd A (a / 512) ⟨0, []⟩ else upd A (a / 512) ⟨(A (a / 512)).c, a :: (A (a / 512)).fl⟩
def sm (h : Nat → Nat) : Nat → Nat
  | 0 => 0
  | k + 1 => sm h k + h k
def usd (A : Nat → Ap) (n : Nat) : Nat := sm (fun i => (A i).c * mny (A i) i) n
def pgs (A : Nat → Ap) (n : Nat) : Nat := cnt (fun i => (A i).c != 0) n

theorem sm_congr {h k : Nat → Nat} : ∀ {n}, (∀ i, i < n → h i = k i) → sm h n = sm k n
  | 0, _ => rfl
  | n + 1, e => by unfold sm; rw [sm_congr (fun i hi => e i (by omega)), e n (by omega)]
theorem sm_upd {h k : Nat → Nat} {p : Nat} : ∀ {n}, p < n → (∀ i, i ≠ p → h i = k i) → sm h n + k p = sm k n + h p
  | 0, hp, _ => absurd hp (by omega)
  | n + 1, hp, e => by
    unfold sm
    by_cases hpn : p = n
    · subst hpn
      rw [sm_congr (fun i hi => e i (by omega))]
      omega
    · have := sm_upd (n := n) (by omega) e
      rw [e n (fun h => hpn h.symm)]
      omega

theorem cnt_zero {f : Nat → Bool} : ∀ {n}, cnt f n = 0 → ∀ i, i < n → f i = false
  | 0, _, i, hi => absurd hi (by omega)
  | n + 1, h, i, hi => by
    unfold cnt at h
    by_cases e : i = n
    · subst e
      cases hf : f i
      · rfl
      · rw [hf] at h; simp at h
    · exact cnt_zero (n := n) (by omega) i (by omega)

/-- What all pages are, always. -/
structure Wf (A : Nat → Ap) (n : Nat) : Prop where
  le : n ≤ 128
  zero : (A 0).c = 0
  out : ∀ i, n ≤ i → (A i).c = 0
  none_ : ∀ i, (A i).c = 0 → (A i).fl = []
  cc : ∀ i, (A i).c ≠ 0 → isC (A i).c
  nd : ∀ i, (A i).fl.Nodup
  mem : ∀ i a, a ∈ (A i).fl → a / 512 = i ∧ a % (A i).c = 0
  some_ : ∀ i, (A i).c ≠ 0 → 1 ≤ mny (A i) i

theorem Wf.memC {A : Nat → Ap} {n i a : Nat} (W : Wf A n) (h : a ∈ (A i).fl) : (A i).c ≠ 0 := fun e => by rw [W.none_ i e] at h; cases h
theorem Wf.ins {A : Nat → Ap} {n i : Nat} (W : Wf A n) (h : (A i).c ≠ 0) : 1 ≤ i ∧ i < n := by
  constructor
  · rcases Nat.eq_zero_or_pos i with rfl | h0
    · exact absurd W.zero h
    · exact h0
  · rcases Nat.lt_or_ge i n with h1 | h1
    · exact h1
    · exact absurd (W.out i h1) h

theorem tkn_iff {A : Nat → Ap} {a : Nat} : tkn A a = true ↔ (A (a / 512)).c ≠ 0 ∧ a % (A (a / 512)).c = 0 ∧ a ∉ (A (a / 512)).fl := by
  unfold tkn
  simp [and_assoc]
/-- The block's number in its page. -/
theorem gP_at {c : Nat} {fl : List Nat} (hc : isC c) {a : Nat} (h : a % c = 0) : gP ⟨c, fl⟩ (a / 512) (a % 512 / c) = !(fl.contains a) := by
  unfold gP
  have e : 512 * (a / 512) + c * (a % 512 / c) = a := by rcases hc with rfl | rfl | rfl | rfl | rfl <;> omega
  have l : a % 512 / c < 512 / c := by rcases hc with rfl | rfl | rfl | rfl | rfl <;> omega
  show (decide (a % 512 / c < 512 / c) && !(fl.contains (512 * (a / 512) + c * (a % 512 / c)))) = _
  rw [e, decide_eq_true l, Bool.true_and]
theorem gP_take {c : Nat} {l : List Nat} (hc : isC c) {a : Nat} (h : a % c = 0) (hn : a ∉ l) : gP ⟨c, l⟩ (a / 512) = fun i => gP ⟨c, a :: l⟩ (a / 512) i || i == a % 512 / c := by
  funext i
  unfold gP
  have hl : a % 512 / c < 512 / c := by rcases hc with rfl | rfl | rfl | rfl | rfl <;> omega
  show (decide (i < 512 / c) && !(l.contains (512 * (a / 512) + c * i))) = ((decide (i < 512 / c) && !((a :: l).contains (512 * (a / 512) + c * i))) || i == a % 512 / c)
  by_cases e : i = a % 512 / c
  · subst e
    have e2 : 512 * (a / 512) + c * (a % 512 / c) = a := by rcases hc with rfl | rfl | rfl | rfl | rfl <;> omega
    rw [e2, decide_eq_true hl]
    simp [hn]
  · have e3 : (i == a % 512 / c) = false := beq_eq_false_iff_ne.2 e
    rw [e3, Bool.or_false]
    by_cases hi : i < 512 / c
    · have e2 : 512 * (a / 512) + c * i ≠ a := by intro e4; apply e; rcases hc with rfl | rfl | rfl | rfl | rfl <;> omega
      rw [List.contains_cons, beq_eq_false_iff_ne.2 e2, Bool.false_or]
    · rw [decide_eq_false hi]; rfl
theorem gP_give {c : Nat} {l : List Nat} (hc : isC c) {a : Nat} (h : a % c = 0) (hn : a ∉ l) : gP ⟨c, a :: l⟩ (a / 512) = fun i => gP ⟨c, l⟩ (a / 512) i && !(i == a % 512 / c) := by
  funext i
  rw [gP_take hc h hn]
  show gP ⟨c, a :: l⟩ (a / 512) i = ((gP ⟨c, a :: l⟩ (a / 512) i || i == a % 512 / c) && !(i == a % 512 / c))
  by_cases e : i = a % 512 / c
  · subst e
    have := gP_at (fl := a :: l) hc h
    rw [this]; simp
  · rw [beq_eq_false_iff_ne.2 e, Bool.or_false, Bool.not_false, Bool.and_true]
theorem gP_full {p c : Nat} (hc : isC c) : gP ⟨c, blks p c⟩ p = fun _ => false := by
  funext i
  unfold gP
  show (decide (i < 512 / c) && !((blks p c).contains (512 * p + c * i))) = false
  by_cases hi : i < 512 / c
  · have : 512 * p + c * i ∈ blks p c := by unfold blks; exact List.mem_map.2 ⟨i, List.mem_range.2 hi, rfl⟩
    simp [this]
  · rw [decide_eq_false hi]; rfl
theorem gP_none {p : Nat} : gP ⟨0, []⟩ p = fun _ => false := by funext i; unfold gP; simp
theorem r_lt {c a : Nat} (hc : isC c) : a % 512 / c < 32 := by rcases hc with rfl | rfl | rfl | rfl | rfl <;> omega
theorem cnt_none : ∀ n, cnt (fun _ => false) n = 0
  | 0 => rfl
  | n + 1 => by unfold cnt; rw [cnt_none n]; rfl
theorem wd_zero : ∀ n, wd (fun _ => false) n = 0
  | 0 => rfl
  | n + 1 => by unfold wd; rw [wd_zero n]; rfl

theorem mny_take {c : Nat} {l : List Nat} (hc : isC c) {a : Nat} (h : a % c = 0) (hn : a ∉ l) : mny ⟨c, l⟩ (a / 512) = mny ⟨c, a :: l⟩ (a / 512) + 1 := by
  unfold mny
  rw [gP_take hc h hn]
  apply cnt_set _ _ _ _ (r_lt hc)
  rw [gP_at hc h]; simp
theorem mny_full {p c : Nat} (hc : isC c) : mny ⟨c, blks p c⟩ p = 0 := by unfold mny; rw [gP_full hc]; exact cnt_none 32
theorem mny_none {p : Nat} : mny ⟨0, []⟩ p = 0 := by unfold mny; rw [gP_none]; exact cnt_none 32
theorem mny_le (x : Ap) (p : Nat) : mny x p ≤ 32 := cnt_le _ _

/-- What is had when a block is taken from a page's list. -/
structure Spot (A : Nat → Ap) (n c p a : Nat) (l : List Nat) : Prop where
  pg : 1 ≤ p ∧ p < n
  cc : isC c
  cl : (A p).c = c ∧ (A p).fl = a :: l ∨ (A p).c = 0 ∧ blks p c = a :: l
  nd : (a :: l).Nodup
  mem : ∀ b ∈ a :: l, b / 512 = p ∧ b % c = 0

theorem spot_of {A : Nat → Ap} {n c a : Nat} {A' : Nat → Ap} (W : Wf A n) (hc : isC c) (h : allc A n c = some (a, A')) :
    ∃ p l, Spot A n c p a l ∧ A' = upd A p ⟨c, l⟩ ∧ (hit A n c = some p ∧ (A p).fl = a :: l ∨ hit A n c = none ∧ fre A n = some p ∧ blks p c = a :: l) := by
  unfold allc spot at h
  cases hh : hit A n c with
  | some p =>
    rw [hh] at h
    simp only [Option.map_some, Option.some.injEq, Prod.mk.injEq] at h
    have hf := find_range.1 hh
    have h1 := hf.2.1
    simp only [Bool.and_eq_true, beq_iff_eq, Bool.not_eq_true', List.isEmpty_eq_false_iff] at h1
    obtain ⟨x, l, hl⟩ := List.exists_cons_of_ne_nil h1.2
    rw [hl] at h
    have hne : (A p).c ≠ 0 := by have := hc.pos; omega
    refine ⟨p, l, ⟨W.ins hne, hc, .inl ⟨h1.1, ?_⟩, ?_, ?_⟩, h.2.symm, .inl ⟨rfl, ?_⟩⟩
    · rw [hl, show x = a from h.1]
    · have := W.nd p; rw [hl, show x = a from h.1] at this; exact this
    · intro b hb
      have := W.mem p b (by rw [hl, show x = a from h.1]; exact hb)
      rw [h1.1] at this; exact this
    · rw [hl, show x = a from h.1]
  | none =>
    rw [hh] at h
    cases hf : fre A n with
    | none => rw [hf] at h; simp at h
    | some p =>
      rw [hf] at h
      simp only [Option.map_some, Option.some.injEq, Prod.mk.injEq] at h
      have hr := find_range.1 hf
      have h1 := hr.2.1
      simp only [Bool.and_eq_true, beq_iff_eq, bne_iff_ne, ne_eq] at h1
      obtain ⟨l, hl⟩ := blks_cons (p := p) hc
      rw [hl] at h
      have ha : 512 * p = a := h.1
      refine ⟨p, l, ⟨⟨by omega, hr.1⟩, hc, .inr ⟨h1.2, by rw [hl, ha]⟩, ?_, ?_⟩, h.2.symm, .inr ⟨rfl, rfl, by rw [hl, ha]⟩⟩
      · rw [← ha, ← hl]; exact nodup_blks hc
      · intro b hb
        rw [← ha, ← hl] at hb
        exact (mem_blks hc).1 hb

section
variable {A : Nat → Ap} {n c p a : Nat} {l : List Nat}
theorem Spot.at_ (S : Spot A n c p a l) : a / 512 = p ∧ a % c = 0 := S.mem a (List.mem_cons_self ..)
theorem Spot.not (S : Spot A n c p a l) : a ∉ l := (List.nodup_cons.1 S.nd).1
theorem Spot.fits (S : Spot A n c p a l) : 512 ≤ a ∧ a + c ≤ 512 * n ∧ a + c ≤ 512 * (p + 1) := by
  have h1 := S.at_; have h2 := S.pg
  rcases S.cc with rfl | rfl | rfl | rfl | rfl <;> omega
theorem Spot.mny (S : Spot A n c p a l) : mny ⟨c, l⟩ p = mny ⟨c, a :: l⟩ p + 1 := by
  have := mny_take (l := l) S.cc S.at_.2 S.not
  rw [S.at_.1] at this; exact this
/-- The page as it was, its list told. -/
theorem Spot.was (S : Spot A n c p a l) : gP ⟨c, a :: l⟩ p = gP (A p) p ∧ Go.Proofs.YtbngmkopgoelbaaDoor.mny ⟨c, a :: l⟩ p = Go.Proofs.YtbngmkopgoelbaaDoor.mny (A p) p := by
  have key : gP ⟨c, a :: l⟩ p = gP (A p) p := by
    rcases S.cl with ⟨h1, h2⟩ | ⟨h1, h2⟩
    · rw [show A p = ⟨c, a :: l⟩ from by rw [← h1, ← h2]]
    · rw [← h2, gP_full S.cc]
      funext i
      unfold gP
      rw [h1]; simp
  exact ⟨key, by unfold Go.Proofs.YtbngmkopgoelbaaDoor.mny; rw [key]⟩
theorem Spot.wf (W : Wf A n) (S : Spot A n c p a l) : Wf (upd A p ⟨c, l⟩) n := by
  have hc := S.cc.pos
  have hp := S.pg
  refine ⟨W.le, ?_, ?_, ?_, ?_, ?_, ?_, ?_⟩
  · rw [upd_other _ _ (by omega)]; exact W.zero
  · intro i hi; rw [upd_other _ _ (by omega)]; exact W.out i hi
  · intro i h
    by_cases e : i = p
    · subst e; rw [upd_same] at h; have h : c = 0 := h; omega
    · rw [upd_other _ _ e] at h ⊢; exact W.none_ i h
  · intro i h
    by_cases e : i = p
    · subst e; rw [upd_same]; exact S.cc
    · rw [upd_other _ _ e] at h ⊢; exact W.cc i h
  · intro i
    by_cases e : i = p
    · subst e; rw [upd_same]; exact (List.nodup_cons.1 S.nd).2
    · rw [upd_other _ _ e]; exact W.nd i
  · intro i b
    by_cases e : i = p
    · subst e; rw [upd_same]; exact fun hb => S.mem b (List.mem_cons_of_mem _ hb)
    · rw [upd_other _ _ e]; exact W.mem i b
  · intro i h
    by_cases e : i = p
    · subst e; rw [upd_same, S.mny]; omega
    · rw [upd_other _ _ e] at h ⊢; exact W.some_ i h
theorem Spot.tkn (W : Wf A n) (S : Spot A n c p a l) (b : Nat) : tkn (upd A p ⟨c, l⟩) b = (tkn A b || b == a) := by
  have hc := S.cc.pos
  by_cases e : b / 512 = p
  · unfold Go.Proofs.YtbngmkopgoelbaaDoor.tkn
    rw [e, upd_same]
    have hc0 : (c != 0) = true := by rw [bne_iff_ne]; omega
    show (c != 0 && b % c == 0 && !(l.contains b)) = _
    rw [hc0, Bool.true_and]
    rcases S.cl with ⟨h1, h2⟩ | ⟨h1, h2⟩
    · rw [h1, h2, hc0, Bool.true_and, List.contains_cons]
      by_cases eb : b = a
      · subst eb; simp [S.at_.2, S.not]
      · rw [beq_eq_false_iff_ne.2 eb]; simp
    · rw [h1]
      have hz : ((0 : Nat) != 0) = false := rfl
      rw [hz, Bool.false_and, Bool.false_and, Bool.false_or]
      by_cases eb : b = a
      · subst eb; simp [S.at_.2, S.not]
      · rw [beq_eq_false_iff_ne.2 eb]
        by_cases hb : b % c = 0
        · have : b ∈ a :: l := by rw [← h2]; exact (mem_blks S.cc).2 ⟨e, hb⟩
          have : b ∈ l := by rcases List.mem_cons.1 this with h | h; exact absurd h eb; exact h
          simp [this]
        · simp [hb]
  · unfold Go.Proofs.YtbngmkopgoelbaaDoor.tkn
    rw [upd_other _ _ e]
    have : b ≠ a := fun h => e (by rw [h]; exact S.at_.1)
    rw [beq_eq_false_iff_ne.2 this, Bool.or_false]
theorem Spot.new (W : Wf A n) (S : Spot A n c p a l) : Go.Proofs.YtbngmkopgoelbaaDoor.tkn A a = false := by
  unfold Go.Proofs.YtbngmkopgoelbaaDoor.tkn
  rw [S.at_.1]
  rcases S.cl with ⟨h1, h2⟩ | ⟨h1, h2⟩
  · rw [h2]; simp
  · rw [h1]; rfl
theorem Spot.usd (W : Wf A n) (S : Spot A n c p a l) : usd (upd A p ⟨c, l⟩) n = usd A n + c := by
  unfold Go.Proofs.YtbngmkopgoelbaaDoor.usd
  have := sm_upd (h := fun i => (upd A p ⟨c, l⟩ i).c * Go.Proofs.YtbngmkopgoelbaaDoor.mny (upd A p ⟨c, l⟩ i) i) (k := fun i => (A i).c * Go.Proofs.YtbngmkopgoelbaaDoor.mny (A i) i) S.pg.2 (fun i hi => by simp only [upd_other _ _ hi])
  have e1 : (fun i => (upd A p ⟨c, l⟩ i).c * Go.Proofs.YtbngmkopgoelbaaDoor.mny (upd A p ⟨c, l⟩ i) i) p = c * (Go.Proofs.YtbngmkopgoelbaaDoor.mny (A p) p + 1) := by
    show (upd A p ⟨c, l⟩ p).c * Go.Proofs.YtbngmkopgoelbaaDoor.mny (upd A p ⟨c, l⟩ p) p = _
    rw [upd_same, S.mny, S.was.2]
  simp only [] at e1
  rw [e1] at this
  have e2 : (A p).c * Go.Proofs.YtbngmkopgoelbaaDoor.mny (A p) p = c * Go.Proofs.YtbngmkopgoelbaaDoor.mny (A p) p := by
    rcases S.cl with ⟨h1, h2⟩ | ⟨h1, h2⟩
    · rw [h1]
    · have := W.none_ p h1
      rw [show A p = ⟨0, []⟩ from by rw [← h1, ← this], mny_none]; simp
  rw [e2, Nat.mul_add] at this
  omega
end

/-- A block that is taken lies in its page. -/
theorem Wf.fits {A : Nat → Ap} {n a : Nat} (W : Wf A n) (h : tkn A a = true) : 512 ≤ a ∧ a + (A (a / 512)).c ≤ 512 * n ∧ a + (A (a / 512)).c ≤ 512 * (a / 512 + 1) ∧ isC (A (a / 512)).c := by
  have ⟨h1, h2, h3⟩ := tkn_iff.1 h
  have hi := W.ins h1
  have hc := W.cc _ h1
  refine ⟨by omega, ?_, ?_, hc⟩ <;> (generalize (A (a / 512)).c = c at *; rcases hc with rfl | rfl | rfl | rfl | rfl <;> omega)

section
variable {A : Nat → Ap} {n a : Nat}
theorem Wf.mny_give (W : Wf A n) (h : tkn A a = true) : mny (A (a / 512)) (a / 512) = mny ⟨(A (a / 512)).c, a :: (A (a / 512)).fl⟩ (a / 512) + 1 := by
  have ⟨h1, h2, h3⟩ := tkn_iff.1 h
  exact mny_take (W.cc _ h1) h2 h3
theorem Wf.last (W : Wf A n) (h : tkn A a = true) (h1 : mny (A (a / 512)) (a / 512) = 1) (b : Nat) (hb : b / 512 = a / 512) (hne : b ≠ a) : tkn A b = false := by
  have ⟨k1, k2, k3⟩ := tkn_iff.1 h
  have hc := W.cc _ k1
  cases hf : tkn A b
  · rfl
  · have ⟨m1, m2, m3⟩ := tkn_iff.1 hf
    rw [hb] at m1 m2 m3
    have e := W.mny_give h
    rw [h1] at e
    have e0 : mny ⟨(A (a / 512)).c, a :: (A (a / 512)).fl⟩ (a / 512) = 0 := by omega
    have := cnt_zero e0 (b % 512 / (A (a / 512)).c) (r_lt hc)
    rw [← hb, gP_at (by rw [hb]; exact hc) (by rw [hb]; exact m2)] at this
    simp at this
    rcases Classical.em (b = a) with h5 | h5
    · exact absurd h5 hne
    · have h6 := this h5; rw [hb] at h6; exact absurd h6 m3
theorem Wf.frd (W : Wf A n) (h : tkn A a = true) : Wf (frd A a) n := by
  have ⟨h1, h2, h3⟩ := tkn_iff.1 h
  have hi := W.ins h1
  have hc := W.cc _ h1
  unfold Go.Proofs.YtbngmkopgoelbaaDoor.frd
  split
  · refine ⟨W.le, ?_, ?_, ?_, ?_, ?_, ?_, ?_⟩
    · rw [upd_other _ _ (by omega)]; exact W.zero
    · intro i hi'; rw [upd_other _ _ (by omega)]; exact W.out i hi'
    · intro i h
      by_cases e : i = a / 512
      · subst e; rw [upd_same]
      · rw [upd_other _ _ e] at h ⊢; exact W.none_ i h
    · intro i h
      by_cases e : i = a / 512
      · subst e; rw [upd_same] at h; exact absurd rfl h
      · rw [upd_other _ _ e] at h ⊢; exact W.cc i h
    · intro i
      by_cases e : i = a / 512
      · subst e; rw [upd_same]; exact List.nodup_nil
      · rw [upd_other _ _ e]; exact W.nd i
    · intro i b
      by_cases e : i = a / 512
      · subst e; rw [upd_same]; intro hb; cases hb
      · rw [upd_other _ _ e]; exact W.mem i b
    · intro i h
      by_cases e : i = a / 512
      · subst e; rw [upd_same] at h; exact absurd rfl h
      · rw [upd_other _ _ e] at h ⊢; exact W.some_ i h
  · rename_i hm
    have hg := W.mny_give h
    have hs := W.some_ _ h1
    refine ⟨W.le, ?_, ?_, ?_, ?_, ?_, ?_, ?_⟩
    · rw [upd_other _ _ (by omega)]; exact W.zero
    · intro i hi'; rw [upd_other _ _ (by omega)]; exact W.out i hi'
    · intro i h
      by_cases e : i = a / 512
      · subst e; rw [upd_same] at h; exact absurd h h1
      · rw [upd_other _ _ e] at h ⊢; exact W.none_ i h
    · intro i h
      by_cases e : i = a / 512
      · subst e; rw [upd_same]; exact hc
      · rw [upd_other _ _ e] at h ⊢; exact W.cc i h
    · intro i
      by_cases e : i = a / 512
      · subst e; rw [upd_same]; exact List.nodup_cons.2 ⟨h3, W.nd _⟩
      · rw [upd_other _ _ e]; exact W.nd i
    · intro i b
      by_cases e : i = a / 512
      · subst e; rw [upd_same]; intro hb
        rcases List.mem_cons.1 hb with rfl | hb
        · exact ⟨rfl, h2⟩
        · exact W.mem _ b hb
      · rw [upd_other _ _ e]; exact W.mem i b
    · intro i h
      by_cases e : i = a / 512
      · subst e; rw [upd_same]; omega
      · rw [upd_other _ _ e] at h ⊢; exact W.some_ i h
theorem Wf.tkn_frd (W : Wf A n) (h : tkn A a = true) (b : Nat) : tkn (Go.Proofs.YtbngmkopgoelbaaDoor.frd A a) b = (tkn A b && b != a) := by
  have ⟨h1, h2, h3⟩ := tkn_iff.1 h
  by_cases e : b / 512 = a / 512
  · unfold Go.Proofs.YtbngmkopgoelbaaDoor.frd
    split
    · rename_i hm
      have l : tkn (upd A (a / 512) ⟨0, []⟩) b = false := by unfold tkn; rw [e, upd_same]; rfl
      rw [l]
      by_cases eb : b = a
      · subst eb; simp
      · rw [W.last h hm b e eb]; rfl
    · unfold tkn
      rw [e, upd_same]
      show ((A (a / 512)).c != 0 && b % (A (a / 512)).c == 0 && !((a :: (A (a / 512)).fl).contains b)) = _
      rw [List.contains_cons]
      by_cases eb : b = a
      · subst eb; simp
      · have e2 : (b != a) = true := by rw [bne_iff_ne]; exact eb
        rw [beq_eq_false_iff_ne.2 eb, e2]; simp
  · have : b ≠ a := fun h => e (by rw [h])
    have e2 : (b != a) = true := by rw [bne_iff_ne]; exact this
    rw [e2, Bool.and_true]
    unfold Go.Proofs.YtbngmkopgoelbaaDoor.frd tkn
    split <;> rw [upd_other _ _ e]
theorem Wf.usd_frd (W : Wf A n) (h : tkn A a = true) : usd (Go.Proofs.YtbngmkopgoelbaaDoor.frd A a) n + (A (a / 512)).c = usd A n := by
  have ⟨h1, h2, h3⟩ := tkn_iff.1 h
  have hi := W.ins h1
  have hg := W.mny_give h
  unfold Go.Proofs.YtbngmkopgoelbaaDoor.frd
  split
  · rename_i hm
    unfold usd
    have := sm_upd (h := fun i => (upd A (a / 512) ⟨0, []⟩ i).c * mny (upd A (a / 512) ⟨0, []⟩ i) i) (k := fun i => (A i).c * mny (A i) i) hi.2 (fun i hi => by simp only [upd_other _ _ hi])
    have e1 : (fun i => (upd A (a / 512) ⟨0, []⟩ i).c * mny (upd A (a / 512) ⟨0, []⟩ i) i) (a / 512) = 0 := by
      show (upd A (a / 512) ⟨0, []⟩ (a / 512)).c * _ = _
      rw [upd_same]; simp
    have e2 : (fun i => (A i).c * mny (A i) i) (a / 512) = (A (a / 512)).c := by show (A (a / 512)).c * mny (A (a / 512)) (a / 512) = _; rw [hm, Nat.mul_one]
    simp only [] at e1 e2
    rw [e1, e2] at this
    omega
  · unfold usd
    have := sm_upd (h := fun i => (upd A (a / 512) ⟨(A (a / 512)).c, a :: (A (a / 512)).fl⟩ i).c * mny (upd A (a / 512) ⟨(A (a / 512)).c, a :: (A (a / 512)).fl⟩ i) i) (k := fun i => (A i).c * mny (A i) i) hi.2 (fun i hi => by simp only [upd_other _ _ hi])
    have e1 : (fun i => (upd A (a / 512) ⟨(A (a / 512)).c, a :: (A (a / 512)).fl⟩ i).c * mny (upd A (a / 512) ⟨(A (a / 512)).c, a :: (A (a / 512)).fl⟩ i) i) (a / 512) = (A (a / 512)).c * mny ⟨(A (a / 512)).c, a :: (A (a / 512)).fl⟩ (a / 512) := by
      show (upd A (a / 512) ⟨(A (a / 512)).c, a :: (A (a / 512)).fl⟩ (a / 512)).c * mny (upd A (a / 512) ⟨(A (a / 512)).c, a :: (A (a / 512)).fl⟩ (a / 512)) (a / 512) = _
      rw [upd_same]
    have e2 : (fun i => (A i).c * mny (A i) i) (a / 512) = (A (a / 512)).c * (mny ⟨(A (a / 512)).c, a :: (A (a / 512)).fl⟩ (a / 512) + 1) := by
      show (A (a / 512)).c * mny (A (a / 512)) (a / 512) = _
      rw [hg]
    simp only [] at e1 e2
    rw [e1, e2, Nat.mul_add] at this
    omega
end

/-- A slab of which nothing was ever taken. -/
def none0 : Nat → Ap := fun _ => ⟨0, []⟩
theorem none0_wf {n : Nat} (h : n ≤ 128) : Wf none0 n := ⟨h, rfl, fun _ _ => rfl, fun _ _ => rfl, fun _ h => absurd rfl h, fun _ => List.nodup_nil, fun _ _ h => (by cases h), fun _ h => absurd rfl h⟩
theorem none0_usd (n : Nat) : usd none0 n = 0 := by
  unfold usd
  induction n with
  | zero => rfl
  | succ n ih => unfold sm; rw [ih]; show 0 + 0 * _ = 0; simp
end Go.Proofs.YtbngmkopgoelbaaDoor
