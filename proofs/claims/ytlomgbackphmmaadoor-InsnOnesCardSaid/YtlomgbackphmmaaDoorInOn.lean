/- The law InsnOnes. -/
import Derived.Test.YtlomgbackphmmaaDoorInE
import Derived.Test.YtlomgbackphmmaaDoorInB
import Derived.Test.YtlomgbackphmmaaDoorInPa
import Derived.Test.YtlomgbackphmmaaDoorInPb
set_option linter.unusedVariables false
set_option linter.unusedSimpArgs false
namespace Go.Proofs.YtlomgbackphmmaaDoor
open Go.RowKit Go.Lib

theorem Bytes_one (x : Ins) (hx : x.Ok) (A : Option Addr) (w : World) (hP : Pr w A [x]) :
    Calls Tryd.prog 20 #[.slice A 1 1] w fun e w' => ∃ B c, e = .returned (.slice B 8 c) ∧ 8 ≤ c ∧ By w' B (encs [x]) ∧ Below w.heap.size w w' :=
  (Bytes_any A 1 [x] w hP (by simp)).mono fun e w' ⟨v, he, hr, hB⟩ => by
    obtain ⟨B, c, rfl, hc, hby⟩ := By.of_row hr (encs_length [x]).symm (encs_range [x] (by simpa using hx))
    exact ⟨B, c, he, hc, hby, hB⟩
theorem Parse_one (x : Ins) (hx : x.Ok) (A : Option Addr) (c : Nat) (hc : 8 ≤ c) (w : World) (hP : By w A (encs [x])) :
    Calls Tryd.prog 17 #[.slice A 8 c] w fun e w' => ∃ B c' n, e = .returned (.tuple #[.slice B n c', .int .i64 (chk x)]) ∧ ((chk x = 0 ∧ n = 1) ∨ (chk x ≠ 0 ∧ n = 0)) ∧ Below w.heap.size w w' :=
  (Parse_any A c (encs [x]) w hP (by rw [encs_length]; exact hc) (by rw [encs_length]; simp)).mono fun e w' ⟨v, he, hr, hB⟩ => by
    obtain ⟨B, c', rfl⟩ := row_form hr
    rw [prsE_one x hx] at he
    refine ⟨B, c', _, he, ?_, hB⟩
    rw [prsL_one x hx]
    by_cases h : chk x = 0
    · rw [if_pos h]; exact .inl ⟨h, rfl⟩
    · rw [if_neg h]; exact .inr ⟨h, rfl⟩
theorem tx_empty (x : Ins) (h : chk x ≠ 0) : tx x = ⟨#[]⟩ := by unfold tx; rw [if_neg h]

theorem txt_ne (x : Ins) (hx : x.Ok) (h : chk x = 0) : (tx x).toList ≠ [] ∧ (tx x).toList.isEmpty = false ∧ ((tx x).toList == []) = false := by
  have h0 : (tx x).toList ≠ [] := by
    intro e
    unfold tx at e
    rw [if_pos h, ByteArray.toList_eq] at e
    have e2 : txt x = ⟨#[]⟩ := data_inj (by rw [e])
    have := (rd_back x hx h).2
    rw [e2] at this
    exact absurd this (by decide +kernel)
  exact ⟨h0, by simpa using h0, by simpa using h0⟩
set_option maxRecDepth 100000 in
set_option maxHeartbeats 4000000 in
theorem InsnOnes_calls (x : Ins) (hx : x.Ok) (w : World) (h : Ev w) :
    Calls Tryd.prog 9 #[.agg x.cells] w fun e w' => e = .returned (.bool true) ∧ Below w.heap.size w w' := by
  have H := Lib.hid h
  have HS := Lib.hid shown_calls
  have HC := Lib.hid (fun w => Check_any x hx w)
  have HT := Lib.hid (fun w hw => Text_any x hx w hw)
  have HB := Lib.hid (fun A w hP => Bytes_one x hx A w hP)
  have HP := Lib.hid (fun A c hc w hP => Parse_one x hx A c hc w hP)
  have HPr := Lib.hid (fun W => Pr.lit W x hx)
  have hE : chk x ≠ 0 → tx x = ⟨#[]⟩ := tx_empty x
  have HE := Lib.hid hE
  have HNE := Lib.hid (fun h0 : chk x = 0 => txt_ne x hx h0)
  obtain ⟨xo, xa, xb, xc, xi⟩ := x
  generalize encs [⟨xo, xa, xb, xc, xi⟩] = bs at *
  generalize tx ⟨xo, xa, xb, xc, xi⟩ = t1 at *
  generalize chk ⟨xo, xa, xb, xc, xi⟩ = c1 at *
  clear h hx hE
  go_enter Tryd.func9, Tryd.ntmps9
  go_wp2_with fail
  have hA : Below w.heap.size w (w.alloc (.cells #[.int .u8 xo, .int .u8 xa, .int .u8 xb, .int .u8 xc, .int .u32 xi] 24)) := (Below.refl _ w).alloc (Nat.le_refl _) _
  refine (HS.out _ (H.out.below hA)).mono ?_
  rintro e w1 ⟨rfl, hB1⟩
  have HX1 := Lib.hid ((Bx.new w ⟨xo, xa, xb, xc, xi⟩).below hB1)
  have HB1 := Lib.hid (hA.trans (hB1.mono hA.size))
  clear hA hB1
  have x0 := HX1.out.k0
  have x1 := HX1.out.k1
  have x2 := HX1.out.k2
  have x3 := HX1.out.k3
  have x4 := HX1.out.k4
  go_wp2_with fail
  refine (HC.out _).mono ?_
  rintro e w2 ⟨rfl, hB2⟩
  have HX2 := Lib.hid (HX1.out.below hB2)
  have HB2 := Lib.hid (HB1.out.trans (hB2.mono HB1.out.size))
  clear hB2 HX1 HB1 x0 x1 x2 x3 x4
  have x0 := HX2.out.k0
  have x1 := HX2.out.k1
  have x2 := HX2.out.k2
  have x3 := HX2.out.k3
  have x4 := HX2.out.k4
  go_wp2_with fail
  refine (HB.out _ _ (HPr.out _)).mono ?_
  rintro e w3 ⟨B3, c3, rfl, hc3, hy3, hB3⟩
  have hA3 : Below w2.heap.size w2 w3 := ((Below.refl _ w2).alloc (Nat.le_refl _) _).trans (hB3.mono (by rw [World.size_alloc]; omega))
  have HX3 := Lib.hid (HX2.out.below hA3)
  have HB3 := Lib.hid (HB2.out.trans (hA3.mono HB2.out.size))
  have HY3 := Lib.hid hy3
  clear hB3 hA3 HX2 HB2 hy3 x0 x1 x2 x3 x4
  go_wp2_with fail
  refine (HP.out _ _ hc3 _ HY3.out).mono ?_
  rintro e w4 ⟨B4, c4, n4, rfl, hn4, hB4⟩
  have HX4 := Lib.hid (HX3.out.below hB4)
  have HB4 := Lib.hid (HB3.out.trans (hB4.mono HB3.out.size))
  have HN4 := Lib.hid hn4
  clear hB4 HX3 HB3 HY3 hn4
  have x0 := HX4.out.k0
  have x1 := HX4.out.k1
  have x2 := HX4.out.k2
  have x3 := HX4.out.k3
  have x4 := HX4.out.k4
  go_wp2_with fail
  refine (HT.out _ (H.out.pw.below HB4.out)).mono ?_
  rintro e w5 ⟨rfl, hB5⟩
  have HB5 := Lib.hid (HB4.out.trans (hB5.mono HB4.out.size))
  clear hB5 HX4 HB4 x0 x1 x2 x3 x4
  rcases HN4.out with ⟨h0, rfl⟩ | ⟨h0, rfl⟩
  · subst h0
    obtain ⟨hne, hne2, hne3⟩ := HNE.out rfl
    clear HNE HN4 HE
    go_wp2
    go_ret
    exact ⟨rfl, HB5.out⟩
  · obtain rfl := HE.out h0
    have q1 : (c1 == 0) = false := beq_eq_false_iff_ne.2 h0
    clear HNE HN4 HE h0
    go_wp2
    go_ret
    exact ⟨rfl, HB5.out⟩
end Go.Proofs.YtlomgbackphmmaaDoor
