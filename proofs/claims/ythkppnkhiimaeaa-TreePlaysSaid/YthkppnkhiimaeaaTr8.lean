/- Lemmas of the claim TreePlays. -/
import Derived.Test.YthkppnkhiimaeaaTr7
import Derived.Laws.EntriesVeiled
import Derived.Deep.Onto
/- The tree's functions (layer 11): All. -/
set_option linter.unusedVariables false
set_option linter.unusedSimpArgs false
namespace Go.Proofs.Ythkppnkhiimaeaa
open Go.RowKit
def InO (bs : List Int) : Nat → Int → List Int → Prop
 | 0, n, L => n = 0 ∧ L = []
 | h + 1, n, L => (n = 0 ∧ L = []) ∨ (n ≠ 0 ∧ ∃ L1 L2, L = L1 ++ n :: L2 ∧ InO bs h (chB bs n 0) L1 ∧ InO bs h (chB bs n 1) L2)
def nums (L : List Int) : List Value := L.map (Value.int .i64)
theorem nums_snoc (L : List Int) (x : Int) : nums L ++ [Value.int .i64 x] = nums (L ++ [x]) := by simp [nums]
theorem Ar.other {w w1 : World} {p d : Nat} {bs : List Int} (h : Ar w p d bs) {r : Option Nat} (hg : w.grownBy w1 r) (hne : ∀ k, r = some k → k ≠ p ∧ k ≠ d) : Ar w1 p d bs :=
 ⟨(hg.block p h.lt.1 (fun e => (hne p e.symm).1 rfl)).trans h.hdr, (hg.block d h.lt.2 (fun e => (hne d e.symm).2 rfl)).trans h.row, h.ne, h.len, h.rng⟩
theorem row_form {w : World} {base e size n : Nat} {v : Value} {xs : List Value} (h : w.ownsRow base e size v n xs) : ∃ A c, v = .slice A n c := by
 rcases h.2 with ⟨rfl, rfl⟩ | ⟨g, cap, cur, rfl, _⟩
 ·exact ⟨_, _, rfl⟩
 ·exact ⟨_, _, rfl⟩
theorem int_info : (Try.prog.info? 3).map (fun i => (i.zero, i.size, i.bytes)) = some (some (.int .i64 0), 1, 8) := by kernel_rfl
def fv (O K X : Nat) : Value := .func (.func 48) #[] #[.pointer (some ⟨O, 0, none⟩), .pointer (some ⟨K, 0, none⟩), .pointer (some ⟨X, 0, none⟩)]
section
variable {w0 w w1 : World} {p d : Nat} {bs : List Int} {r : Int} {B O K X : Nat} {pre : List Int}
structure Aw (w0 w : World) (p d : Nat) (r : Int) (bs : List Int) (B O K X : Nat) (pre : List Int) : Prop where
 ar : Ar w p d bs
 box : w.heap[X]? = some (bx p r)
 fn : w.heap[K]? = some (.cells #[fv O K X] 76)
 ex : ∃ v, w.heap[O]? = some (.cells #[v] 38) ∧ w.ownsRow B 3 1 v pre.length (nums pre)
 gr : w0.grownBy w (some d)
 o : w0.heap.size ≤ O
 ne : O ≠ K ∧ O ≠ X ∧ O ≠ p ∧ O ≠ d ∧ X ≠ d ∧ K ≠ d
 lt : O < B ∧ K < B ∧ X < B ∧ p < B ∧ d < B ∧ B ≤ w.heap.size ∧ w0.heap.size ≤ B
theorem Aw.below (S : Aw w0 w p d r bs B O K X pre) (hb : Below w.heap.size w w1) : Aw w0 w1 p d r bs B O K X pre := by
 obtain ⟨v, h1, h2⟩ := S.ex
 have hl := S.lt
 refine ⟨S.ar.below hb, (hb.block X (by omega)).trans S.box, (hb.block K (by omega)).trans S.fn, ⟨v, (hb.block O (by omega)).trans h1, h2.kept (only_of_below hb none) ?_⟩, S.gr.trans (only_of_below hb _), S.o, S.ne, ?_⟩
 ·cases hv : v.ownBlock with
  | none => exact .inl rfl
  | some k => exact .inr (by simp)
 ·have := hb.size; omega
theorem Aw.drew (S : Aw w0 w p d r bs B O K X pre) : Aw w0 w.drew p d r bs B O K X pre := S.below ⟨rfl, rfl, rfl, Nat.le_refl _, fun _ _ => rfl⟩
theorem Aw.cX (S : Aw w0 w p d r bs B O K X pre) : w.cell? ⟨X, 0, none⟩ = some (.pointer (some ⟨p, 0, none⟩)) ∧ w.cell? ⟨X, 1, none⟩ = some (.int .i64 r) := by
 constructor
 ·rw [cell_of_row w X 0 _ _ _ S.box]; rfl
 ·rw [cell_of_row w X 1 _ _ _ S.box]; rfl
theorem Aw.cK (S : Aw w0 w p d r bs B O K X pre) : w.cell? ⟨K, 0, none⟩ = some (fv O K X) := by rw [cell_of_row w K 0 _ _ _ S.fn]; rfl
theorem Aw.cO (S : Aw w0 w p d r bs B O K X pre) : ∃ A c, w.cell? ⟨O, 0, none⟩ = some (.slice A pre.length c) := by
 obtain ⟨v, h1, h2⟩ := S.ex
 obtain ⟨A, c, rfl⟩ := row_form h2
 exact ⟨A, c, by rw [cell_of_row w O 0 _ _ _ h1]; rfl⟩
theorem child_aw (S : Aw w0 w p d r bs B O K X pre) (n s : Int) (hn : pl n) (hs : s = 0 ∨ s = 1) :
  Calls Try.prog 36 #[.agg #[.pointer (some ⟨p, 0, none⟩), .int .i64 r], .int .i64 n, .int .i64 s] w fun e w' => e = .returned (.int .i64 (chB bs n s)) ∧ Aw w0 w' p d r bs B O K X pre :=
 (child_any n s w S.ar hn hs).mono fun _ _ ⟨h, hB⟩ => ⟨h, S.below hB⟩
theorem child_aw2 {A : Option Addr} {m c : Nat} (S : Aw w0 w p d r bs B O K X pre ∧ w.cell? ⟨O, 0, none⟩ = some (.slice A m c)) (n s : Int) (hn : pl n) (hs : s = 0 ∨ s = 1) :
  Calls Try.prog 36 #[.agg #[.pointer (some ⟨p, 0, none⟩), .int .i64 r], .int .i64 n, .int .i64 s] w fun e w' => e = .returned (.int .i64 (chB bs n s)) ∧ (Aw w0 w' p d r bs B O K X pre ∧ w'.cell? ⟨O, 0, none⟩ = some (.slice A m c)) :=
 (child_any n s w S.1.ar hn hs).mono fun _ _ ⟨h, hB⟩ => ⟨h, S.1.below hB, (hB.cell (World.block_lt_of_cell? w _ S.2)).trans S.2⟩
theorem enters_walk (vs : Array Value) (w : World) : (callFunc 48 vs).run Try.prog w = .ok (.enter 48 vs) w := by go_simp
theorem st_fn {Q : Exit → Act → World → Prop} {I : World → Prop} {l : List (Nat × Value)} {a0 : Act} {ops : Array Oper} {i d t : Nat} {o : Oper} {pos : String} {after : Array Edge} {guard : Option (Nat × Bool)} (ho : o = { dst := some d, op := .load 76 (.tmp t), type := 76, pos, after, guard })
  (hx : l[i]? = some (d, fv O K X)) (hg : Yes ops l o) (hv : OpV l a0 o (.tmp t) (.pointer (some ⟨K, 0, none⟩))) (hS : ∀ w, I w → w.cell? ⟨K, 0, none⟩ = some (fv O K X)) :
  Settled Try.prog ops Q I l a0 i o := by
 subst ho
 refine st_val rfl hx hg ?_
 intro a w he hI
 have c := hS w hI
 have e := he _ _ hv
 clear hx hg hv he hS
 unfold Act.eval at e
 go_simp
theorem st_lk {Q : Exit → Act → World → Prop} {I : World → Prop} {l : List (Nat × Value)} {a0 : Act} {ops : Array Oper} {i d t : Nat} {o : Oper} {pos : String} {after : Array Edge} {guard : Option (Nat × Bool)} (ho : o = { dst := some d, op := .load 67 (.tmp t), type := 67, pos, after, guard })
  (hx : l[i]? = some (d, .agg #[.pointer (some ⟨p, 0, none⟩), .int .i64 r])) (hg : Yes ops l o) (hv : OpV l a0 o (.tmp t) (.pointer (some ⟨X, 0, none⟩))) (hS : ∀ w, I w → w.cell? ⟨X, 0, none⟩ = some (.pointer (some ⟨p, 0, none⟩)) ∧ w.cell? ⟨X, 1, none⟩ = some (.int .i64 r)) :
  Settled Try.prog ops Q I l a0 i o := by
 subst ho
 refine st_val rfl hx hg ?_
 intro a w he hI
 obtain ⟨c0, c1⟩ := hS w hI
 have e := he _ _ hv
 clear hx hg hv he hS
 unfold Act.eval at e
 go_simp
theorem st_sl {Q : Exit → Act → World → Prop} {I : World → Prop} {l : List (Nat × Value)} {a0 : Act} {ops : Array Oper} {i d t : Nat} {v : Value} {o : Oper} {pos : String} {after : Array Edge} {guard : Option (Nat × Bool)} (ho : o = { dst := some d, op := .load 38 (.tmp t), type := 38, pos, after, guard })
  (hx : l[i]? = some (d, v)) (hg : Yes ops l o) (hv : OpV l a0 o (.tmp t) (.pointer (some ⟨O, 0, none⟩))) (hS : ∀ w, I w → w.cell? ⟨O, 0, none⟩ = some v) :
  Settled Try.prog ops Q I l a0 i o := by
 subst ho
 refine st_val rfl hx hg ?_
 intro a w he hI
 have c := hS w hI
 have e := he _ _ hv
 clear hx hg hv he hS
 unfold Act.eval at e
 go_simp
theorem st_len {Q : Exit → Act → World → Prop} {I : World → Prop} {l : List (Nat × Value)} {a0 : Act} {ops : Array Oper} {i d t n c : Nat} {A : Option Addr} {o : Oper} {pos : String} {after : Array Edge} {guard : Option (Nat × Bool)} (ho : o = { dst := some d, op := .call { callee := .builtin .len, args := #[.tmp t], argTypes := #[38] }, type := 3, pos, after, guard })
  (hx : l[i]? = some (d, .int .i64 n)) (hg : Yes ops l o) (hv : OpV l a0 o (.tmp t) (.slice A n c)) :
  Settled Try.prog ops Q I l a0 i o := by
 subst ho
 refine st_val rfl hx hg ?_
 intro a w he hI
 have e := he _ _ hv
 clear hx hg hv he
 unfold Act.eval at e
 go_simp
theorem st_bin {Q : Exit → Act → World → Prop} {I : World → Prop} {l : List (Nat × Value)} {a0 : Act} {ops : Array Oper} {i d t : Nat} {op : BinOp} {m k : Int} {v : Value} {o : Oper} {ty : TypeId} {pos : String} {after : Array Edge} {guard : Option (Nat × Bool)} (ho : o = { dst := some d, op := .binOp op 3 (.tmp t) (.const (.int .i64 k)) 3, type := ty, pos, after, guard })
  (hx : l[i]? = some (d, v)) (hg : Yes ops l o) (hv : OpV l a0 o (.tmp t) (.int .i64 m)) (h : (op = .gtr ∧ v = .bool (decide (k < m))) ∨ (op = .eql ∧ v = .bool (m == k)) ∨ (op = .add ∧ v = .int .i64 (IntKind.i64.wrap (m + k)))) :
  Settled Try.prog ops Q I l a0 i o := by
 subst ho
 refine st_val rfl hx hg ?_
 intro a w he hI
 have e := he _ _ hv
 clear hx hg hv he
 unfold Act.eval at e
 rcases h with ⟨rfl, rfl⟩ | ⟨rfl, rfl⟩ | ⟨rfl, rfl⟩ <;> go_simp
theorem Aw.at4 {w3 w4 : World} {A : Option Addr} {c : Nat} {o : Obj} {u : Value} (S : Aw w0 w3 p d r bs B O K X pre) (hrow : w3.ownsRow B 3 1 (.slice A pre.length c) pre.length (nums pre))
  (hg : (w3.alloc o).grownBy w4 (Value.slice A pre.length c).ownBlock) (hu : w3.heap[O]? = some (.cells #[u] 38)) : w4.heap[O]? = some (.cells #[u] 38) := by
 have hl := S.lt
 have hlt := (hrow.alloc o).lt
 rw [hg.block O (by simp; omega) (fun e => by have := (hlt O e.symm).1; omega), ((Below.refl _ _).alloc (Nat.le_refl _) o).block O (by omega)]
 exact hu
theorem Aw.push {w3 w4 : World} {n : Int} {A : Option Addr} {c : Nat} {v' : Value} {o : Obj} (S : Aw w0 w3 p d r bs B O K X pre) (hrow : w3.ownsRow B 3 1 (.slice A pre.length c) pre.length (nums pre))
  (hown : w4.ownsRow B 3 1 v' (pre.length + 1) (nums pre ++ [Value.int .i64 n])) (hg : (w3.alloc o).grownBy w4 (Value.slice A pre.length c).ownBlock) (hb : ∃ u, w3.heap[O]? = some (.cells #[u] 38)) :
  Aw w0 (w4.setCell ⟨O, 0, none⟩ v') p d r bs B O K X (pre ++ [n]) := by
 have hl := S.lt
 have hne := S.ne
 have hlt := (hrow.alloc o).lt
 have hO := S.o
 have key : ∀ k, k < B → k ≠ O → (w4.setCell ⟨O, 0, none⟩ v').heap[k]? = w3.heap[k]? := fun k hk hkO => by
  rw [Below.heap_setCell w4 ⟨O, 0, none⟩ v' k hkO, hg.block k (by simp; omega) (fun e => by have := (hlt k e.symm).1; omega)]
  exact ((Below.refl _ _).alloc (Nat.le_refl _) o).block k (by omega)
 have hsz := hg.size
 have hsz2 : (w4.setCell ⟨O, 0, none⟩ v').heap.size = w4.heap.size := World.size_setCell _ _ _
 simp at hsz
 obtain ⟨u, hu⟩ := hb
 have hO4 : w4.heap[O]? = some (.cells #[u] 38) := by
  rw [hg.block O (by simp; omega) (fun e => by have := (hlt O e.symm).1; omega), ((Below.refl _ _).alloc (Nat.le_refl _) o).block O (by omega)]
  exact hu
 refine ⟨⟨(key p (by omega) (fun e => hne.2.2.1 e.symm)).trans S.ar.hdr, (key d (by omega) (fun e => hne.2.2.2.1 e.symm)).trans S.ar.row, S.ar.ne, S.ar.len, S.ar.rng⟩, (key X (by omega) (fun e => hne.2.1 e.symm)).trans S.box, (key K (by omega) (fun e => hne.1 e.symm)).trans S.fn, ⟨v', ?_, ?_⟩, ?_, hO, hne, ?_⟩
 ·rw [heap_setCell_same w4 O 0 #[u] _ v' hO4]; rfl
 ·rw [List.length_append]
  have := ownsRow_setCell_below hown (a := ⟨O, 0, none⟩) hl.1 v'
  rw [nums_snoc] at this
  exact this
 ·have g1 : w0.grownBy w4 (some d) := (S.gr.trans (World.grownBy_alloc _ o _)).andThen hg (fun k hk => .inl (by have := (hlt k hk).1; omega))
  exact ⟨g1.os, g1.tape, g1.output, by rw [hsz2]; exact g1.size, fun i hi hn => (Below.heap_setCell w4 ⟨O, 0, none⟩ v' i (by show i ≠ O; omega)).trans (g1.block i hi hn)⟩
 ·rw [hsz2]; omega
theorem walk_none (n deep : Int) (hn : n = 0) (S : Aw w0 w p d r bs B O K X pre) :
  Calls Try.prog 48 #[.int .i64 n, .int .i64 deep, .pointer (some ⟨O, 0, none⟩), .pointer (some ⟨K, 0, none⟩), .pointer (some ⟨X, 0, none⟩)] w fun e w' =>
   e = .returned (.bool true) ∧ Aw w0 w' p d r bs B O K X (pre ++ []) := by
 subst hn
 have HS := Lib.hid S
 clear S
 go_enter Try.func48, Try.ntmps48
 go_wp2
 go_ret
 exact ⟨rfl, by rw [List.append_nil]; exact HS.out⟩
set_option maxHeartbeats 2000000 in
theorem walk_any : ∀ (h : Nat) (n deep : Int) (L pre : List Int) (w : World), Aw w0 w p d r bs B O K X pre → InO bs h n L → 0 ≤ deep → deep + h ≤ 60 → pre.length + L.length ≤ 9999 → pl n →
  Calls Try.prog 48 #[.int .i64 n, .int .i64 deep, .pointer (some ⟨O, 0, none⟩), .pointer (some ⟨K, 0, none⟩), .pointer (some ⟨X, 0, none⟩)] w fun e w' =>
   e = .returned (.bool true) ∧ Aw w0 w' p d r bs B O K X (pre ++ L)
 | 0, n, deep, L, pre, w, S, hI, hd0, hd, hl, hn => by
  obtain ⟨h1, rfl⟩ := hI
  exact walk_none n deep h1 S
 | h + 1, n, deep, L, pre, w, S, hI, hd0, hd, hl, hn => by
  rcases hI with ⟨h1, rfl⟩ | ⟨hne, L1, L2, rfl, hI1, hI2⟩
  ·exact walk_none n deep h1 S
  ·obtain ⟨P2, hP2⟩ : ∃ x, pre ++ L1 = x := ⟨_, rfl⟩
   have hlen2 : P2.length = pre.length + L1.length := by rw [← hP2, List.length_append]
   have ih1 : Hid (∀ (w : World), Aw w0 w p d r bs B O K X pre → Calls Try.prog 48 #[.int .i64 (chB bs n 0), .int .i64 (deep + 1), .pointer (some ⟨O, 0, none⟩), .pointer (some ⟨K, 0, none⟩), .pointer (some ⟨X, 0, none⟩)] w fun e w' =>
     e = .returned (.bool true) ∧ Aw w0 w' p d r bs B O K X P2) := Lib.hid (fun w S => by
    have := walk_any h (chB bs n 0) (deep + 1) L1 pre w S hI1 (by omega) (by omega) (by simp at hl; omega) (gt_range bs S.ar.rng _)
    rw [hP2] at this
    exact this)
   have ih2 := Lib.hid (fun (w : World) (S : Aw w0 w p d r bs B O K X (P2 ++ [n])) => walk_any h (chB bs n 1) (deep + 1) L2 (P2 ++ [n]) w S hI2 (by omega) (by omega) (by simp at hl ⊢; omega) (gt_range bs S.ar.rng _))
   have hres : pre ++ (L1 ++ n :: L2) = P2 ++ [n] ++ L2 := by rw [← hP2]; simp
   rw [hres]
   have hnb : (n == 0) = false := beq_eq_false_iff_ne.2 hne
   have HS := Lib.hid S
   have HN := Lib.hid hn
   have hp2 : P2.length ≤ 9998 := by simp at hl; omega
   have hw1 : IntKind.i64.wrap (deep + 1) = deep + 1 := by rw [IntKind.wrap_i64]; omega
   have hdp : decide ((60 : Int) < deep) = false := decide_eq_false (by omega)
   have hpp : pre.length ≤ 9998 := by omega
   have hpl : (((pre.length : Nat) : Int) == 10000) = false := beq_eq_false_iff_ne.2 (by omega)
   obtain ⟨A, c, hcO⟩ := S.cO
   have HCO := Lib.hid hcO
   obtain ⟨i0, hi, hz0, hz1, hz2⟩ := info_parts int_info
   clear S hI1 hI2 hd0 hd hl hn hne hcO hlen2 hP2 hres
   go_enter Try.func48, Try.ntmps48
   go_wp2_with fail
   refine region_turns (by kernel_rfl) [(10, .int .i64 deep), (11, .bool false), (12, .bool false), (13, .slice A pre.length c), (14, .int .i64 (pre.length : Nat)), (15, .bool false), (16, .bool false), (17, .bool false), (18, fv O K X), (19, .agg #[.pointer (some ⟨p, 0, none⟩), .int .i64 r]), (20, .int .i64 n), (21, .int .i64 (chB bs n 0)), (22, .int .i64 deep), (23, .int .i64 (deep + 1)), (24, .bool true), (25, .bool false), (26, .bool false)] 14 (fun w' => Aw w0 w' p d r bs B O K X pre ∧ w'.cell? ⟨O, 0, none⟩ = some (.slice A pre.length c)) (fun w' => Aw w0 w' p d r bs B O K X P2) rfl (by simp) rfl (by kernel_rfl) (Nat.le_of_ble_eq_true rfl) ⟨HS.out.drew, HCO.out⟩ (And.intro (And.intro (st_move rfl rfl rfl (.inl rfl) (.inr ⟨1, rfl, .inl ⟨rfl, rfl⟩⟩)) (.inl (by kernel_rfl)))
    (And.intro (And.intro (st_bin rfl rfl (.inl rfl) (.inr ⟨10, rfl, .inr ⟨0, by kernel_rfl, rfl⟩⟩) (.inl ⟨rfl, by rw [hdp]⟩)) (.inl (by kernel_rfl)))
    (And.intro (And.intro (st_move rfl rfl rfl (.inl rfl) (.inr ⟨11, rfl, .inr ⟨1, by kernel_rfl, rfl⟩⟩)) (.inl (by kernel_rfl)))
    (And.intro (And.intro (st_sl (O := O) rfl rfl (.inr ⟨2, false, _, 12, rfl, rfl, rfl, rfl, by kernel_rfl⟩) (.inr ⟨2, rfl, .inl ⟨rfl, rfl⟩⟩) (fun _ h => h.2)) (.inl (by kernel_rfl)))
    (And.intro (And.intro (st_len rfl rfl (.inr ⟨2, false, _, 12, rfl, rfl, rfl, rfl, by kernel_rfl⟩) (.inr ⟨13, rfl, .inr ⟨3, by kernel_rfl, rfl⟩⟩)) (.inl (by kernel_rfl)))
    (And.intro (And.intro (st_bin rfl rfl (.inr ⟨2, false, _, 12, rfl, rfl, rfl, rfl, by kernel_rfl⟩) (.inr ⟨14, rfl, .inr ⟨4, by kernel_rfl, rfl⟩⟩) (.inr (.inl ⟨rfl, by rw [hpl]⟩))) (.inl (by kernel_rfl)))
    (And.intro (And.intro (st_pick (b := false) rfl rfl rfl (.inl rfl) (.inr ⟨12, rfl, .inr ⟨2, by kernel_rfl, rfl⟩⟩) (.inr ⟨15, rfl, .inr ⟨5, by kernel_rfl, rfl⟩⟩)) (.inl (by kernel_rfl)))
    (And.intro (And.intro (st_move rfl rfl rfl (.inl rfl) (.inr ⟨16, rfl, .inr ⟨6, by kernel_rfl, rfl⟩⟩)) (.inl (by kernel_rfl)))
    (And.intro (And.intro (st_fn (O := O) (K := K) (X := X) rfl rfl (.inr ⟨7, false, _, 17, rfl, rfl, rfl, rfl, by kernel_rfl⟩) (.inr ⟨3, rfl, .inl ⟨rfl, rfl⟩⟩) (fun _ h => Aw.cK h.1)) (.inl (by kernel_rfl)))
    (And.intro (And.intro (st_lk (X := X) (p := p) (r := r) rfl rfl (.inr ⟨7, false, _, 17, rfl, rfl, rfl, rfl, by kernel_rfl⟩) (.inr ⟨4, rfl, .inl ⟨rfl, rfl⟩⟩) (fun _ h => Aw.cX h.1)) (.inl (by kernel_rfl)))
    (And.intro (And.intro (st_move rfl rfl rfl (.inr ⟨7, false, _, 17, rfl, rfl, rfl, rfl, by kernel_rfl⟩) (.inr ⟨0, rfl, .inl ⟨rfl, rfl⟩⟩)) (.inl (by kernel_rfl)))
    (And.intro (And.intro (st_call (f := 36) (vs := #[.agg #[.pointer (some ⟨p, 0, none⟩), .int .i64 r], .int .i64 n, .int .i64 0]) rfl rfl rfl (.inr ⟨7, false, _, 17, rfl, rfl, rfl, rfl, by kernel_rfl⟩) rfl (args3 (.inr ⟨19, rfl, .inr ⟨9, by kernel_rfl, rfl⟩⟩) (.inr ⟨20, rfl, .inr ⟨10, by kernel_rfl, rfl⟩⟩) (.inl rfl)) (enters_child _) (fun _ h => child_aw2 h n 0 HN.out (.inl rfl))) (.inl (by kernel_rfl)))
    (And.intro (And.intro (st_move rfl rfl rfl (.inr ⟨7, false, _, 17, rfl, rfl, rfl, rfl, by kernel_rfl⟩) (.inr ⟨1, rfl, .inl ⟨rfl, rfl⟩⟩)) (.inl (by kernel_rfl)))
    (And.intro (And.intro (st_bin rfl rfl (.inr ⟨7, false, _, 17, rfl, rfl, rfl, rfl, by kernel_rfl⟩) (.inr ⟨22, rfl, .inr ⟨12, by kernel_rfl, rfl⟩⟩) (.inr (.inr ⟨rfl, by rw [hw1]⟩))) (.inl (by kernel_rfl)))
    (And.intro (st_callVTo (f := 48) (vs := #[.int .i64 (chB bs n 0), .int .i64 (deep + 1)]) (caps := #[.pointer (some ⟨O, 0, none⟩), .pointer (some ⟨K, 0, none⟩), .pointer (some ⟨X, 0, none⟩)]) rfl rfl rfl (.inr ⟨7, false, _, 17, rfl, rfl, rfl, rfl, by kernel_rfl⟩) rfl (args2 (.inr ⟨21, rfl, .inr ⟨11, by kernel_rfl, rfl⟩⟩) (.inr ⟨23, rfl, .inr ⟨13, by kernel_rfl, rfl⟩⟩)) (.inr ⟨18, rfl, .inr ⟨8, by kernel_rfl, rfl⟩⟩) (enters_walk _) (fun w h => ih1.out w h.1))
    (And.intro (And.intro (st_not (b := true) rfl rfl rfl (.inr ⟨7, false, _, 17, rfl, rfl, rfl, rfl, by kernel_rfl⟩) (.inr ⟨24, rfl, .inr ⟨14, by kernel_rfl, rfl⟩⟩)) (.inr (st_not (b := true) rfl rfl rfl (.inr ⟨7, false, _, 17, rfl, rfl, rfl, rfl, by kernel_rfl⟩) (.inr ⟨24, rfl, .inr ⟨14, by kernel_rfl, rfl⟩⟩))))
    (And.intro (And.intro (st_pick (b := false) rfl rfl rfl (.inl rfl) (.inr ⟨17, rfl, .inr ⟨7, by kernel_rfl, rfl⟩⟩) (.inr ⟨25, rfl, .inr ⟨15, by kernel_rfl, rfl⟩⟩)) (.inr (st_pick (b := false) rfl rfl rfl (.inl rfl) (.inr ⟨17, rfl, .inr ⟨7, by kernel_rfl, rfl⟩⟩) (.inr ⟨25, rfl, .inr ⟨15, by kernel_rfl, rfl⟩⟩))))
    trivial))))))))))))))))) ?_
   intro w3 S3
   simp only [puts, List.foldl_cons, List.foldl_nil, Act.put, List.setIfInBounds_toArray, List.set_cons_zero, List.set_cons_succ]
   have HS3 := Lib.hid S3
   have hlt3 := S3.lt
   have hne3 := S3.ne
   have ho3 := S3.o
   obtain ⟨v3, hb3, hrow3⟩ := S3.ex
   obtain ⟨A3, c3, rfl⟩ := row_form hrow3
   have hcO3 : w3.cell? ⟨O, 0, none⟩ = some (.slice A3 P2.length c3) := by rw [cell_of_row w3 O 0 _ _ _ hb3]; rfl
   have HRow := Lib.hid hrow3
   have HB3 := Lib.hid hb3
   have HLT := Lib.hid hlt3
   have HNE := Lib.hid hne3
   have HO3 := Lib.hid ho3
   clear S3 hrow3 hb3 hlt3 hne3 ho3
   go_wp2_with (at_builtin; refine wpList_append_own _ rfl _ _ 38 rfl B 3 i0 (.int .i64 0) 1 8 Try.underlying38 hi hz0 hz1 hz2 rfl (by decide) _ _ _ rfl (HRow.out.alloc _) ⟨w3.heap.size, 0, none⟩ 1 1 [.int .i64 n] rfl rfl ?c1 ?c2 ?c3 ?c4 ?c5 ?_)
   case c1 =>
    intro j u hj
    match j, hj with
    | 0, hj => simp at hj; subst hj; simp [Addr.add]
   case c2 => intro u hu; simp at hu; subst hu; rfl
   case c3 => unfold maxLen; simp; omega
   case c4 => omega
   case c5 => have := HLT.out; simp; omega
   ·intro v' w4 hown4 hg4 _
    obtain ⟨A4, c4, rfl⟩ := row_form hown4
    have e4 := HS3.out.at4 HRow.out hg4 HB3.out
    have hcO4 : w4.cell? ⟨O, 0, none⟩ = some (.slice A3 P2.length c3) := by rw [cell_of_row w4 O 0 _ _ _ e4]; rfl
    have hfz : w4.frozen? ⟨O, 0, none⟩ = false := by simp [World.frozen?, e4]
    have HS5 := Lib.hid (HS3.out.push HRow.out hown4 hg4 ⟨_, HB3.out⟩)
    clear hown4 hg4 hcO3 e4
    go_wp2_with fail
    refine region_turns (by kernel_rfl) [(31, fv O K X), (32, .agg #[.pointer (some ⟨p, 0, none⟩), .int .i64 r]), (33, .int .i64 n), (34, .int .i64 (chB bs n 1)), (35, .int .i64 deep), (36, .int .i64 (deep + 1)), (37, .bool true), (7, .bool true)] 6 (fun w' => Aw w0 w' p d r bs B O K X (P2 ++ [n])) (fun w' => Aw w0 w' p d r bs B O K X (P2 ++ [n] ++ L2)) rfl (by simp) rfl (by kernel_rfl) (Nat.le_of_ble_eq_true rfl) HS5.out.drew (And.intro (And.intro (st_fn (O := O) (K := K) (X := X) rfl rfl (.inl rfl) (.inr ⟨3, rfl, .inl ⟨rfl, rfl⟩⟩) (fun _ h => Aw.cK h)) (.inl (by kernel_rfl)))
    (And.intro (And.intro (st_lk (X := X) (p := p) (r := r) rfl rfl (.inl rfl) (.inr ⟨4, rfl, .inl ⟨rfl, rfl⟩⟩) (fun _ h => Aw.cX h)) (.inl (by kernel_rfl)))
    (And.intro (And.intro (st_move rfl rfl rfl (.inl rfl) (.inr ⟨0, rfl, .inl ⟨rfl, rfl⟩⟩)) (.inl (by kernel_rfl)))
    (And.intro (And.intro (st_call (f := 36) (vs := #[.agg #[.pointer (some ⟨p, 0, none⟩), .int .i64 r], .int .i64 n, .int .i64 1]) rfl rfl rfl (.inl rfl) rfl (args3 (.inr ⟨32, rfl, .inr ⟨1, by kernel_rfl, rfl⟩⟩) (.inr ⟨33, rfl, .inr ⟨2, by kernel_rfl, rfl⟩⟩) (.inl rfl)) (enters_child _) (fun _ h => child_aw h n 1 HN.out (.inr rfl))) (.inl (by kernel_rfl)))
    (And.intro (And.intro (st_move rfl rfl rfl (.inl rfl) (.inr ⟨1, rfl, .inl ⟨rfl, rfl⟩⟩)) (.inl (by kernel_rfl)))
    (And.intro (And.intro (st_bin rfl rfl (.inl rfl) (.inr ⟨35, rfl, .inr ⟨4, by kernel_rfl, rfl⟩⟩) (.inr (.inr ⟨rfl, by rw [hw1]⟩))) (.inl (by kernel_rfl)))
    (And.intro (st_callVTo (f := 48) (vs := #[.int .i64 (chB bs n 1), .int .i64 (deep + 1)]) (caps := #[.pointer (some ⟨O, 0, none⟩), .pointer (some ⟨K, 0, none⟩), .pointer (some ⟨X, 0, none⟩)]) rfl rfl rfl (.inl rfl) rfl (args2 (.inr ⟨34, rfl, .inr ⟨3, by kernel_rfl, rfl⟩⟩) (.inr ⟨36, rfl, .inr ⟨5, by kernel_rfl, rfl⟩⟩)) (.inr ⟨31, rfl, .inr ⟨0, by kernel_rfl, rfl⟩⟩) (enters_walk _) (fun w h => ih2.out w h))
    (And.intro (And.intro (st_assign rfl rfl rfl (.inl rfl) (.inr ⟨37, rfl, .inr ⟨6, by kernel_rfl, rfl⟩⟩)) (.inr (st_assign rfl rfl rfl (.inl rfl) (.inr ⟨37, rfl, .inr ⟨6, by kernel_rfl, rfl⟩⟩))))
    trivial)))))))) ?_
    intro w6 S6
    simp only [puts, List.foldl_cons, List.foldl_nil, Act.put, List.setIfInBounds_toArray, List.set_cons_zero, List.set_cons_succ]
    go_wp2
    go_ret
    exact ⟨rfl, S6⟩
abbrev W3 (w : World) (p : Nat) (r : Int) : World := ((w.alloc (bx p r)).alloc (.cells #[.slice none 0 0] 38)).alloc (.cells #[fv (w.heap.size + 1) (w.heap.size + 1 + 1) w.heap.size] 76)
theorem Aw.start {w1 : World} (hA : Ar w1 p d bs) (hg : w.grownBy w1 (some d)) : Aw w (W3 w1 p r) p d r bs (w1.heap.size + 1 + 1 + 1) (w1.heap.size + 1) (w1.heap.size + 1 + 1) w1.heap.size [] := by
 have hl := hA.lt
 have hs := hg.size
 have b3 : Below w1.heap.size w1 (W3 w1 p r) := ((((Below.refl w1.heap.size w1).alloc (Nat.le_refl _) _).alloc (by simp) _).alloc (by simp; omega) _)
 have hsz : (W3 w1 p r).heap.size = w1.heap.size + 1 + 1 + 1 := by simp
 have hX : (W3 w1 p r).heap[w1.heap.size]? = some (bx p r) := by
  have h1 := heap_alloc_new w1 (bx p r)
  have h2 : Below (w1.heap.size + 1) (w1.alloc (bx p r)) (W3 w1 p r) := ((Below.refl _ _).alloc (by simp) _).alloc (by simp) _
  exact (h2.block _ (by omega)).trans h1
 have hO : (W3 w1 p r).heap[w1.heap.size + 1]? = some (.cells #[.slice none 0 0] 38) := by
  have h1 := heap_alloc_new (w1.alloc (bx p r)) (.cells #[.slice none 0 0] 38)
  have h2 : Below (w1.heap.size + 1 + 1) ((w1.alloc (bx p r)).alloc (.cells #[.slice none 0 0] 38)) (W3 w1 p r) := (Below.refl _ _).alloc (by simp) _
  have h3 := (h2.block (w1.heap.size + 1) (by omega))
  rw [h3]
  simpa using h1
 have hK : (W3 w1 p r).heap[w1.heap.size + 1 + 1]? = some (.cells #[fv (w1.heap.size + 1) (w1.heap.size + 1 + 1) w1.heap.size] 76) := by
  have := heap_alloc_new ((w1.alloc (bx p r)).alloc (.cells #[.slice none 0 0] 38)) (.cells #[fv (w1.heap.size + 1) (w1.heap.size + 1 + 1) w1.heap.size] 76)
  simpa using this
 exact ⟨hA.below b3, hX, hK, ⟨_, hO, World.ownsRow_nil _ _ _ _⟩, hg.trans (only_of_below b3 _), by omega, by omega, by rw [hsz]; omega⟩
theorem All_any (r : Int) (h : Nat) (L : List Int) (w : World) (hA : Ar w p d bs) (hi : inn bs r 8 = true) (hO : InO bs h (gt bs r) L) (hh : h ≤ 60) (hn : L.length ≤ 9999) :
  Calls Try.prog 17 #[.pointer (some ⟨p, 0, none⟩), .int .i64 r] w fun e w' =>
   ∃ v, e = .returned (.tuple #[v, .int .i64 0]) ∧ w'.ownsRow w.heap.size 3 1 v L.length (nums L) ∧ Ar w' p d bs ∧ w.grownBy w' (some d) := by
 have HA := Lib.hid hA
 have HO := Lib.hid hO
 have he : rErrT bs r = 0 := by unfold rErrT; rw [hi]; rfl
 have hv : rVal bs r = gt bs r := by unfold rVal; rw [hi]; rfl
 have HT : Hid (pl (gt bs r)) := Lib.hid (gt_range bs hA.rng r)
 obtain ⟨t, ht⟩ : ∃ t, gt bs r = t := ⟨_, rfl⟩
 rw [ht] at hv HO HT
 clear hA hO hi ht
 go_enter Try.func17, Try.ntmps17
 go_wp2_with fail
 refine (Root_any r _ HA.out).mono ?_
 rintro e w1 ⟨rfl, hA1, hg1⟩
 rw [he, hv]
 have HA1 := Lib.hid hA1
 have HG1 := Lib.hid hg1
 have HS := Lib.hid (Aw.start (r := r) hA1 hg1)
 have HSZ := Lib.hid hg1.size
 clear hA1 hg1
 go_wp2_with fail
 refine (walk_any h t 0 L [] _ HS.out HO.out (by omega) (by omega) (by simpa using hn) HT.out).mono ?_
 rintro e w2 ⟨rfl, S2⟩
 obtain ⟨v, hv1, hv2⟩ := S2.ex
 rw [List.nil_append] at hv2
 obtain ⟨A, c, rfl⟩ := row_form hv2
 have hcO : w2.cell? ⟨w1.heap.size + 1, 0, none⟩ = some (.slice A L.length c) := by rw [cell_of_row w2 _ 0 _ _ _ hv1]; rfl
 have HR := Lib.hid (hv2.mono (base' := w.heap.size) (by have := HSZ.out; omega))
 have HA2 := Lib.hid S2.ar
 have HG2 := Lib.hid S2.gr
 clear S2 hv1 hv2
 go_wp2
 go_ret2
 exact ⟨_, rfl, HR.out, HA2.out, HG2.out⟩
end
end Go.Proofs.Ythkppnkhiimaeaa
