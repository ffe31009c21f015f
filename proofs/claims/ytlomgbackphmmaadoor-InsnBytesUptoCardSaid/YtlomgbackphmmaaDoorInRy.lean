/- The law InsnBytes. -/
import Derived.Test.YtlomgbackphmmaaDoorInJ
import Derived.Test.YtlomgbackphmmaaDoorInCv
import Derived.Test.YtlomgbackphmmaaDoorInRb
import Derived.Test.YtlomgbackphmmaaDoorInRp
import Derived.BigQuiet
import Derived.Test.YtlomgbackphmmaaDoorRg2
set_option linter.unusedVariables false
set_option linter.unusedSimpArgs false
namespace Go.Proofs.YtlomgbackphmmaaDoor
open Go.RowKit Go.Lib

theorem rbytes_u8 (A : Option Addr) (c : Nat) (L : List Ins) (hl : L.length ≤ 1048576) (hok : ∀ x ∈ L, x.Ok) (w : World) (hP : Pr w A L) :
    Calls Tryd.prog 21 #[.slice A L.length c] w fun e w' => ∃ B c', e = .returned (.slice B (8 * L.length) c') ∧ By w' B (encs L) ∧ Below w.heap.size w w' :=
  (RBytes_any A c L w hP (by omega)).mono fun e w' ⟨v, he, hr, hB⟩ => by
    obtain ⟨B, c', rfl, hc, hy⟩ := By.of_row hr (encs_length L).symm (encs_range L hok)
    exact ⟨B, c', he, hy, hB⟩
theorem rparse_e (A : Option Addr) (c n : Nat) (l : List Int) (hn : n = l.length) (hc : n ≤ c) (hl : n ≤ 140737488355000) (w : World) (hP : By w A l) :
    Calls Tryd.prog 18 #[.slice A n c] w fun e w' => ∃ B c', e = .returned (.tuple #[.slice B (prsL l).length c', .int .i64 (prsE l)]) ∧ Pr w' B (prsL l) ∧ Below w.heap.size w w' := by
  subst hn
  refine (RParse_any A c l w hP hc hl).mono fun e w' ⟨v, he, hr, hB⟩ => ?_
  obtain ⟨B, c', rfl, hp⟩ := Pr.of_row hr rfl (fun x hx => by
    unfold prsL at hx
    by_cases h : prsE l = 0
    · rw [if_pos h] at hx
      obtain ⟨i, _, rfl⟩ := List.mem_map.1 hx
      exact hP.dec_ok i
    · rw [if_neg h] at hx; cases hx)
  exact ⟨B, c', he, hp, hB⟩

theorem bstep {w W W' : World} (h : Below w.heap.size w W) (hb : Below W.heap.size W W') : Below w.heap.size w W' := h.trans (hb.mono h.size)

section
variable {Q : Exit → Act → World → Prop} {I : World → Prop} {V : Nat → Value → World → Prop} {ds : List Nat} {a0 : Act} {ops : Array Oper} {o : Oper}
theorem OpE.tmp {x t j : Nat} {p : Value → World → Prop} (h1 : onB o j = true) (h2 : ds[j]? = some t) (h3 : ∀ v w, V j v w → p v w) : OpE V ds a0 o (.tmp t) p := .inr ⟨t, rfl, .inr ⟨j, h1, h2, h3⟩⟩
theorem enters_bytes (vs : Array Value) (w : World) : (callFunc 20 vs).run Tryd.prog w = .ok (.enter 20 vs) w := by go_simp
theorem enters_rbytes (vs : Array Value) (w : World) : (callFunc 21 vs).run Tryd.prog w = .ok (.enter 21 vs) w := by go_simp
theorem se_conv {n : Nat} {l : List Int} (hn : l.length = 8 * n) {i d ty : Nat} {pos after guard} (t j : Nat) (ho : o = { dst := some d, op := .convert 41 9 (.tmp t), type := ty, pos, after, guard }) (hx : ds[i]? = some d) (hg : YesE V ds ops o) (hj : onB o j = true) (hl : ds[j]? = some t)
    (hv : ∀ v w, V j v w → ∃ B c, v = .slice B (8 * n) c ∧ By w B l) (hi : ∀ w, V i (.string (strOfNums l)) w) : SettledE Tryd.prog ops Q I V ds a0 i o := by
  subst ho
  refine se_val (v := .string (strOfNums l)) rfl hx hg ?_
  intro a w he hI
  obtain ⟨B, c, e, hy⟩ := he _ _ (OpE.tmp (x := 0) hj hl hv)
  refine ⟨?_, hi w⟩
  have := conv_by hy (8 * n) c hn.symm
  clear he hg hv hi
  unfold execOp
  dsimp only
  rw [e]
  go_simp
theorem se_eqs {i d ty : Nat} {pos after guard} {s : ByteArray} (t u j k : Nat) (ho : o = { dst := some d, op := .binOp .eql 9 (.tmp t) (.tmp u) 9, type := ty, pos, after, guard }) (hx : ds[i]? = some d) (hg : YesE V ds ops o) (hj : onB o j = true) (hk : onB o k = true) (hl : ds[j]? = some t) (hm : ds[k]? = some u)
    (hv : ∀ v w, V j v w → v = .string s) (hv2 : ∀ v w, V k v w → v = .string s) (hi : ∀ w, V i (.bool true) w) : SettledE Tryd.prog ops Q I V ds a0 i o := by
  subst ho
  refine se_val (v := .bool true) rfl hx hg ?_
  intro a w he hI
  have e1 := he _ (fun v _ => v = .string s) (OpE.tmp (x := 0) hj hl hv)
  have e2 := he _ (fun v _ => v = .string s) (OpE.tmp (x := 0) hk hm hv2)
  refine ⟨?_, hi w⟩
  clear he hg hv hv2 hi
  unfold execOp
  dsimp only
  rw [e1, e2]
  go_simp
theorem se_eqi (n : Int) {i d ty : Nat} {pos after guard} (t u j k : Nat) (ho : o = { dst := some d, op := .binOp .eql 3 (.tmp t) (.tmp u) 3, type := ty, pos, after, guard }) (hx : ds[i]? = some d) (hg : YesE V ds ops o) (hj : onB o j = true) (hk : onB o k = true) (hl : ds[j]? = some t) (hm : ds[k]? = some u)
    (hv : ∀ v w, V j v w → v = .int .i64 n) (hv2 : ∀ v w, V k v w → v = .int .i64 n) (hi : ∀ w, V i (.bool true) w) : SettledE Tryd.prog ops Q I V ds a0 i o := by
  subst ho
  refine se_val (v := .bool true) rfl hx hg ?_
  intro a w he hI
  have e1 := he _ (fun v _ => v = .int .i64 n) (OpE.tmp (x := 0) hj hl hv)
  have e2 := he _ (fun v _ => v = .int .i64 n) (OpE.tmp (x := 0) hk hm hv2)
  refine ⟨?_, hi w⟩
  clear he hg hv hv2 hi
  unfold execOp
  dsimp only
  rw [e1, e2]
  go_simp
theorem se_pick3 {i d ty : Nat} {z : Operand} {pos after guard} (t u j k : Nat) (ho : o = { dst := some d, op := .pick (.tmp t) (.tmp u) z, type := ty, pos, after, guard }) (hx : ds[i]? = some d) (hg : YesE V ds ops o) (hj : onB o j = true) (hk : onB o k = true) (hl : ds[j]? = some t) (hm : ds[k]? = some u)
    (hv : ∀ v w, V j v w → v = .bool true) (hv2 : ∀ v w, V k v w → v = .bool true) (hi : ∀ w, V i (.bool true) w) : SettledE Tryd.prog ops Q I V ds a0 i o := by
  subst ho
  refine se_val (v := .bool true) rfl hx hg ?_
  intro a w he hI
  have e1 := he _ (fun v _ => v = .bool true) (OpE.tmp (x := 0) hj hl hv)
  have e2 := he _ (fun v _ => v = .bool true) (OpE.tmp (x := 0) hk hm hv2)
  refine ⟨?_, hi w⟩
  clear he hg hv hv2 hi
  unfold execOp
  dsimp only
  generalize a.eval z = zv
  rw [e1, e2]
  go_simp
end
/-- What the answer's parts are. -/
def ryT : Value → World → Prop := fun v _ => v = .bool true
def ryA (A : Option Addr) (ca n : Nat) : Value → World → Prop := fun v _ => v = .slice A n ca
def ryR (n : Nat) (L : List Ins) : Value → World → Prop := fun v w => ∃ B c, v = .slice B (8 * n) c ∧ By w B (encs L)
def ryS (L : List Ins) : Value → World → Prop := fun v _ => v = .string (strOfNums (encs L))
def ryE (e : Int) : Value → World → Prop := fun v _ => v = .int .i64 e
def ryV (A : Option Addr) (ca n : Nat) (L : List Ins) (e : Int) (i : Nat) : Value → World → Prop :=
  [ryT, ryT, ryA A ca n, ryR n L, ryS L, ryA A ca n, ryR n L, ryS L, ryT, ryT, ryT, ryT, ryT, ryT, ryE e, ryE e, ryT, ryT, ryT].getD i (fun _ _ => True)
theorem getD_all {α : Type} {p : α → Prop} : ∀ (l : List α) (d : α), (∀ x ∈ l, p x) → p d → ∀ i, p (l.getD i d)
  | [], d, _, h, i => by simpa using h
  | x :: l, d, hl, h, 0 => by simpa using hl x (List.mem_cons_self ..)
  | x :: l, d, hl, h, i + 1 => by simpa using getD_all l d (fun y hy => hl y (List.mem_cons_of_mem _ hy)) h i
theorem ry_stable (A : Option Addr) (ca n : Nat) (L : List Ins) (e : Int) : ∀ i v w w', Below w.heap.size w w' → (ryV A ca n L e i) v w → (ryV A ca n L e i) v w' := by
  intro i
  refine getD_all (p := fun (q : Value → World → Prop) => ∀ v w w', Below w.heap.size w w' → q v w → q v w') _ _ ?_ (fun _ _ _ _ _ => trivial) i
  intro x hx
  have hR : ∀ v w w', Below w.heap.size w w' → ryR n L v w → ryR n L v w' := fun v w w' hb ⟨B, c, e, hy⟩ => ⟨B, c, e, hy.below hb⟩
  simp only [List.mem_cons, List.not_mem_nil, or_false] at hx
  rcases hx with rfl | rfl | rfl | rfl | rfl | rfl | rfl | rfl | rfl | rfl | rfl | rfl | rfl | rfl | rfl | rfl | rfl | rfl | rfl <;> first | exact hR | exact fun _ _ _ _ h => h
theorem ry_y {V : Nat → Value → World → Prop} {ds : List Nat} {ops : Array Oper} {o : Oper} (j k : Nat) {o' : Oper} (h1 : o.guard = some (j, true)) (h2 : ops[j]? = some o') (h3 : o'.dst = some k) (h4 : ds[j]? = some k) (h5 : ∀ v w, V j v w → v = .bool true) (h6 : onB o j = true) : YesE V ds ops o := .inr ⟨j, true, o', k, h1, h2, h3, h4, h5, h6⟩
theorem list19 {α : Type} (l : List α) (h : l.length = 19) : ∃ a0 a1 a2 a3 a4 a5 a6 a7 a8 a9 a10 a11 a12 a13 a14 a15 a16 a17 a18, l = [a0, a1, a2, a3, a4, a5, a6, a7, a8, a9, a10, a11, a12, a13, a14, a15, a16, a17, a18] := by
  match l, h with
  | [a0, a1, a2, a3, a4, a5, a6, a7, a8, a9, a10, a11, a12, a13, a14, a15, a16, a17, a18], _ => exact ⟨a0, a1, a2, a3, a4, a5, a6, a7, a8, a9, a10, a11, a12, a13, a14, a15, a16, a17, a18, rfl⟩

set_option maxRecDepth 100000 in
theorem InsnBytes_calls (A B : Option Addr) (ca cb : Nat) (L : List Ins) (bs : List Int) (hcb : bs.length ≤ cb) (hl : L.length ≤ 1048576) (hm : bs.length ≤ 1048576) (w : World) (hP : Pr w A L) (hQ : By w B bs) (h : Ev w) :
    Calls Tryd.prog 6 #[.slice A L.length ca, .slice B bs.length cb] w fun e w' => e = .returned (.bool true) ∧ Below w.heap.size w w' := by
  have H := Lib.hid h
  have HS := Lib.hid shown_calls
  have HP := Lib.hid hP
  have HQ := Lib.hid hQ
  have HBL := Lib.hid (fun w hP => bytes_u8 A ca L hl (by exact HP.out.ok) w hP)
  have HRL := Lib.hid (fun w hP => rbytes_u8 A ca L hl (by exact HP.out.ok) w hP)
  have hnn : (encs L).length = 8 * L.length := encs_length L
  have HPB := Lib.hid (fun w hP => parse_e B cb bs.length bs rfl hcb (by omega) w hP)
  have HRB := Lib.hid (fun w hP => rparse_e B cb bs.length bs rfl hcb (by omega) w hP)
  have hpl : (prsL bs).length ≤ 1048576 := by
    unfold prsL
    split
    · rw [List.length_map, List.length_range]; omega
    · simp
  have HSM : Hid (∀ (A B : Option Addr) (c1 c2 : Nat) (w : World), Pr w A (prsL bs) → Pr w B (prsL bs) → Calls Tryd.prog 19 #[.slice A (prsL bs).length c1, .slice B (prsL bs).length c2] w fun e w' => e = .returned (.bool true) ∧ Below w.heap.size w w') :=
    Lib.hid (fun A B c1 c2 w hP hQ => by
      have := same_any A B c1 c2 (prsL bs) (prsL bs) w hP hQ (by omega)
      rw [decide_eq_true rfl] at this
      exact this)
  have HNN := Lib.hid hnn
  clear h hP hQ hnn hpl
  generalize L.length = n at *
  generalize prsL bs = R at *
  generalize prsE bs = e1 at *
  go_enter Tryd.func6, Tryd.ntmps6
  go_wp2_with fail
  refine (HS.out _ H.out).mono ?_
  rintro e w1 ⟨rfl, hB1⟩
  have HB1 := Lib.hid hB1
  clear hB1
  go_wp2_with fail
  refine (HPB.out _ (HQ.out.below HB1.out)).mono ?_
  rintro e w2 ⟨A2, c2, rfl, hp2, hB2⟩
  have HP2 := Lib.hid hp2
  have HB2 := Lib.hid (HB1.out.trans (hB2.mono HB1.out.size))
  clear hp2 hB2 HB1
  go_wp2_with fail
  refine (HRB.out _ (HQ.out.below HB2.out)).mono ?_
  rintro e w3 ⟨A3, c3, rfl, hp3, hB3⟩
  have HP3 := Lib.hid hp3
  have HQ3 := Lib.hid (HP2.out.below hB3)
  have HB3 := Lib.hid (HB2.out.trans (hB3.mono HB2.out.size))
  clear hp3 hB3 HB2 HP2
  go_wp2_with fail
  refine (HSM.out _ _ _ _ _ HQ3.out HP3.out).mono ?_
  rintro e w4 ⟨rfl, hB4⟩
  have HB4 := Lib.hid (HB3.out.trans (hB4.mono HB3.out.size))
  clear hB4 HB3 HP3 HQ3
  have hbd : Below w.heap.size w w4.drew := HB4.out.drew
  clear HB4
  go_wp2_with fail
  refine region_settledE (by kernel_rfl) (fun w' => Below w.heap.size w w') (fun i v w' => (ryV A ca n L e1 i) v w') [25, 26, 27, 28, 29, 30, 31, 32, 33, 34, 35, 36, 37, 38, 39, 40, 41, 42, 4] rfl (by decide) rfl (by kernel_rfl) (ry_stable A ca n L e1) hbd
    (And.intro (se_move rfl rfl rfl (.inl rfl) (.inr ⟨5, rfl, .inl ⟨by decide, fun _ => rfl⟩⟩))
    (And.intro (se_move rfl rfl rfl (.inl rfl) (.inr ⟨25, rfl, .inr ⟨0, by kernel_rfl, rfl, fun _ _ h => h⟩⟩))
    (And.intro (se_move rfl rfl rfl (ry_y 1 26 rfl rfl rfl rfl (fun _ _ h => h) (by kernel_rfl)) (.inr ⟨0, rfl, .inl ⟨by decide, fun _ => rfl⟩⟩))
    (And.intro (se_call (u := .slice A n ca) rfl rfl rfl (ry_y 1 26 rfl rfl rfl rfl (fun _ _ h => h) (by kernel_rfl)) (.inr ⟨27, rfl, .inr ⟨2, by kernel_rfl, rfl, fun _ _ h => h⟩⟩) (enters_bytes _) (fun w1 h1 => (HBL.out _ (HP.out.below h1)).mono (fun e w2 ⟨B5, c5, he, _, _, hy, hb⟩ => ⟨_, he, hb, bstep h1 hb, B5, c5, rfl, hy⟩)))
    (And.intro (se_conv HNN.out 28 3 rfl rfl (ry_y 1 26 rfl rfl rfl rfl (fun _ _ h => h) (by kernel_rfl)) (by kernel_rfl) rfl (fun _ _ h => h) (fun _ => rfl))
    (And.intro (se_move rfl rfl rfl (ry_y 1 26 rfl rfl rfl rfl (fun _ _ h => h) (by kernel_rfl)) (.inr ⟨0, rfl, .inl ⟨by decide, fun _ => rfl⟩⟩))
    (And.intro (se_call (u := .slice A n ca) rfl rfl rfl (ry_y 1 26 rfl rfl rfl rfl (fun _ _ h => h) (by kernel_rfl)) (.inr ⟨30, rfl, .inr ⟨5, by kernel_rfl, rfl, fun _ _ h => h⟩⟩) (enters_rbytes _) (fun w1 h1 => (HRL.out _ (HP.out.below h1)).mono (fun e w2 ⟨B5, c5, he, hy, hb⟩ => ⟨_, he, hb, bstep h1 hb, B5, c5, rfl, hy⟩)))
    (And.intro (se_conv HNN.out 31 6 rfl rfl (ry_y 1 26 rfl rfl rfl rfl (fun _ _ h => h) (by kernel_rfl)) (by kernel_rfl) rfl (fun _ _ h => h) (fun _ => rfl))
    (And.intro (se_eqs 29 32 4 7 rfl rfl (ry_y 1 26 rfl rfl rfl rfl (fun _ _ h => h) (by kernel_rfl)) (by kernel_rfl) (by kernel_rfl) rfl rfl (fun _ _ h => h) (fun _ _ h => h) (fun _ => rfl))
    (And.intro (se_pick3 26 33 1 8 rfl rfl (.inl rfl) (by kernel_rfl) (by kernel_rfl) rfl rfl (fun _ _ h => h) (fun _ _ h => h) (fun _ => rfl))
    (And.intro (se_move rfl rfl rfl (.inl rfl) (.inr ⟨34, rfl, .inr ⟨9, by kernel_rfl, rfl, fun _ _ h => h⟩⟩))
    (And.intro (se_move rfl rfl rfl (ry_y 10 35 rfl rfl rfl rfl (fun _ _ h => h) (by kernel_rfl)) (.inr ⟨10, rfl, .inl ⟨by decide, fun _ => rfl⟩⟩))
    (And.intro (se_pick3 35 36 10 11 rfl rfl (.inl rfl) (by kernel_rfl) (by kernel_rfl) rfl rfl (fun _ _ h => h) (fun _ _ h => h) (fun _ => rfl))
    (And.intro (se_move rfl rfl rfl (.inl rfl) (.inr ⟨37, rfl, .inr ⟨12, by kernel_rfl, rfl, fun _ _ h => h⟩⟩))
    (And.intro (se_move rfl rfl rfl (ry_y 13 38 rfl rfl rfl rfl (fun _ _ h => h) (by kernel_rfl)) (.inr ⟨7, rfl, .inl ⟨by decide, fun _ => rfl⟩⟩))
    (And.intro (se_move rfl rfl rfl (ry_y 13 38 rfl rfl rfl rfl (fun _ _ h => h) (by kernel_rfl)) (.inr ⟨9, rfl, .inl ⟨by decide, fun _ => rfl⟩⟩))
    (And.intro (se_eqi e1 39 40 14 15 rfl rfl (ry_y 13 38 rfl rfl rfl rfl (fun _ _ h => h) (by kernel_rfl)) (by kernel_rfl) (by kernel_rfl) rfl rfl (fun _ _ h => h) (fun _ _ h => h) (fun _ => rfl))
    (And.intro (se_pick3 38 41 13 16 rfl rfl (.inl rfl) (by kernel_rfl) (by kernel_rfl) rfl rfl (fun _ _ h => h) (fun _ _ h => h) (fun _ => rfl))
    (And.intro (se_assign rfl rfl rfl (.inl rfl) (.inr ⟨42, rfl, .inr ⟨17, by kernel_rfl, rfl, fun _ _ h => h⟩⟩))
    trivial))))))))))))))))))) ?_
  intro vs w5 hvl hvs h5
  have HV := Lib.hid hvs
  have H5 := Lib.hid h5
  obtain ⟨v0, v1, v2, v3, v4, v5, v6, v7, v8, v9, v10, v11, v12, v13, v14, v15, v16, v17, v18, rfl⟩ := list19 vs hvl
  have e18 : v18 = .bool true := hvs 18 v18 rfl
  subst e18
  clear hvs hvl h5
  simp only [List.zip_cons_cons, List.zip_nil_right, puts, List.foldl_cons, List.foldl_nil, Act.put, List.setIfInBounds_toArray, List.set_cons_zero, List.set_cons_succ]
  go_wp2_with fail
  go_ret
  exact ⟨rfl, H5.out⟩
theorem InsnBytes_row (A B : Option Addr) (len1 len2 ca cb : Nat) {f0 f1 f2 f3 f4 g : Nat → Int} (w : World) (h0 : ColI w A len1 5 0 .u8 f0) (h1 : ColI w A len1 5 1 .u8 f1) (h2 : ColI w A len1 5 2 .u8 f2) (h3 : ColI w A len1 5 3 .u8 f3) (h4 : ColI w A len1 5 4 .u32 f4)
    (k : ColI w B len2 1 0 .u8 g) (hc : len2 ≤ cb) (hl : len1 ≤ 1048576) (hm : len2 ≤ 1048576) (h : Ev w) :
    Calls Tryd.prog 6 #[.slice A len1 ca, .slice B len2 cb] w fun e w' => e = .returned (.bool true) ∧ Below w.heap.size w w' := by
  obtain ⟨L, rfl, hP⟩ := Pr.of_cols h0 h1 h2 h3 h4
  obtain ⟨l, rfl, hQ⟩ := By.of_col k
  exact InsnBytes_calls A B ca cb L l hc hl hm w hP hQ h
end Go.Proofs.YtlomgbackphmmaaDoor
