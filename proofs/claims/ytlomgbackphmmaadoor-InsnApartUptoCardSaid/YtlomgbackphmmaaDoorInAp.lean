/- The law InsnApart. -/
import Derived.Test.YtlomgbackphmmaaDoorInE
set_option linter.unusedVariables false
set_option linter.unusedSimpArgs false
namespace Go.Proofs.YtlomgbackphmmaaDoor
open Go.RowKit Go.Lib

set_option maxRecDepth 100000 in
set_option maxHeartbeats 4000000 in
theorem InsnApart_calls (x y : Ins) (hx : x.Ok) (hy : y.Ok) (s : ByteArray) (hs : s.size < 4294967281) (w : World) (h : Ev w) :
    Calls Tryd.prog 5 #[.agg x.cells, .agg y.cells, .string s] w fun e w' => e = .returned (.bool true) ∧ Below w.heap.size w w' := by
  have H := Lib.hid h
  have HTX := Lib.hid (fun w hw => Text_any x hx w hw)
  have HTY := Lib.hid (fun w hw => Text_any y hy w hw)
  have HR := Lib.hid (fun w hw => Read_any s hs w hw)
  have HS := Lib.hid shown_calls
  have heq := eql_insn
  have hinj : chk x = 0 → chk y = 0 → ((tx x).toList == (tx y).toList) = decide (x = y) := fun h1 h2 => by
    unfold tx
    rw [if_pos h1, if_pos h2]
    by_cases e : x = y
    · rw [decide_eq_true e, e]
      exact (bytes_beq_iff _ _).2 rfl
    · rw [decide_eq_false e]
      exact (bytes_beq_false_iff _ _).2 (fun hh => e (txt_inj hx hy h1 h2 hh))
  have hwx : chk x ≠ 0 ∨ chk y ≠ 0 ∨ (chk x = 0 ∧ chk y = 0 ∧ ((tx x).toList == (tx y).toList) = decide (x = y)) := by
    by_cases h1 : chk x = 0
    · by_cases h2 : chk y = 0
      · exact .inr (.inr ⟨h1, h2, hinj h1 h2⟩)
      · exact .inr (.inl h2)
    · exact .inl h1
  have HWX := Lib.hid hwx
  obtain ⟨xo, xa, xb, xc, xi⟩ := x
  obtain ⟨yo, ya, yb, yc, yi⟩ := y
  generalize tx ⟨xo, xa, xb, xc, xi⟩ = t1 at *
  generalize tx ⟨yo, ya, yb, yc, yi⟩ = t2 at *
  generalize chk ⟨xo, xa, xb, xc, xi⟩ = c1 at *
  generalize chk ⟨yo, ya, yb, yc, yi⟩ = c2 at *
  clear h hx hy hs hinj hwx
  go_enter Tryd.func5, Tryd.ntmps5
  go_wp2_with fail
  have hA : Below w.heap.size w ((w.alloc (.cells #[.int .u8 xo, .int .u8 xa, .int .u8 xb, .int .u8 xc, .int .u32 xi] 24)).alloc (.cells #[.int .u8 yo, .int .u8 ya, .int .u8 yb, .int .u8 yc, .int .u32 yi] 24)) := ((Below.refl _ w).alloc (Nat.le_refl _) _).alloc (by rw [World.size_alloc]; omega) _
  refine (HS.out _ (H.out.below hA)).mono ?_
  rintro e w1 ⟨rfl, hB1⟩
  have hX1 : Bx w1 w.heap.size ⟨xo, xa, xb, xc, xi⟩ := ((Bx.new w ⟨xo, xa, xb, xc, xi⟩).below ((Below.refl _ _).alloc (Nat.le_refl _) _)).below hB1
  have hY1 : Bx w1 (w.heap.size + 1) ⟨yo, ya, yb, yc, yi⟩ := by
    have := (Bx.new (w.alloc (.cells #[.int .u8 xo, .int .u8 xa, .int .u8 xb, .int .u8 xc, .int .u32 xi] 24)) ⟨yo, ya, yb, yc, yi⟩).below hB1
    rw [World.size_alloc] at this
    exact this
  have HX1 := Lib.hid hX1
  have HY1 := Lib.hid hY1
  have HB1 := Lib.hid (hA.trans (hB1.mono hA.size))
  clear hA hB1 hX1 hY1
  obtain ⟨g1, hg1⟩ : ∃ g, w.heap.size = g := ⟨_, rfl⟩
  obtain ⟨g2, hg2⟩ : ∃ g, w.heap.size + 1 = g := ⟨_, rfl⟩
  have x0 := HX1.out.k0
  have x1 := HX1.out.k1
  have x2 := HX1.out.k2
  have x3 := HX1.out.k3
  have x4 := HX1.out.k4
  clear hg1 hg2
  go_wp2_with fail
  refine (HTX.out _ (H.out.pw.below HB1.out)).mono ?_
  rintro e w2 ⟨rfl, hB2⟩
  have HX2 := Lib.hid (HX1.out.below hB2)
  have HY2 := Lib.hid (HY1.out.below hB2)
  have HB2 := Lib.hid (HB1.out.trans (hB2.mono HB1.out.size))
  clear hB2 HX1 HY1 x0 x1 x2 x3 x4
  have y0 := HY2.out.k0
  have y1 := HY2.out.k1
  have y2 := HY2.out.k2
  have y3 := HY2.out.k3
  have y4 := HY2.out.k4
  go_wp2_with fail
  refine (HTY.out _ (H.out.pw.below HB2.out)).mono ?_
  rintro e w3 ⟨rfl, hB3⟩
  have HX3 := Lib.hid (HX2.out.below hB3)
  have HY3 := Lib.hid (HY2.out.below hB3)
  have HB3 := Lib.hid (HB2.out.trans (hB3.mono HB2.out.size))
  clear hB3 HX2 HY2 y0 y1 y2 y3 y4
  have x0 := HX3.out.k0
  have x1 := HX3.out.k1
  have x2 := HX3.out.k2
  have x3 := HX3.out.k3
  have x4 := HX3.out.k4
  have y0 := HY3.out.k0
  have y1 := HY3.out.k1
  have y2 := HY3.out.k2
  have y3 := HY3.out.k3
  have y4 := HY3.out.k4
  by_cases hc : chk (cand (SplitOf s)) = 0 ∧ txt (cand (SplitOf s)) = s
  · have hok := cand_ok (SplitOf s)
    have hrd : ∀ w, Ev w → Calls Tryd.prog 15 #[.string s] w fun e w' => e = .returned (.tuple #[.agg (cand (SplitOf s)).cells, .int .i64 0]) ∧ Below w.heap.size w w' := fun w hw => by
      have := HR.out w hw
      unfold RdPost rdI rdE at this
      rw [if_pos hc, if_pos hc] at this
      exact this
    have HZT := Lib.hid (fun w hw => Text_any (cand (SplitOf s)) hok w hw)
    have HZC := Lib.hid (fun w => Check_any (cand (SplitOf s)) hok w)
    have htx : tx (cand (SplitOf s)) = s := by unfold tx; rw [if_pos hc.1]; exact hc.2
    rw [htx, hc.1] at HZT
    rw [hc.1] at HZC
    generalize cand (SplitOf s) = z at *
    have HRD := Lib.hid hrd
    obtain ⟨zo, za, zb, zc, zi⟩ := z
    clear hok hrd htx hc HR
    have hcase := HWX.out
    clear HWX
    rcases hcase with hc1 | hc2 | ⟨rfl, rfl, ht⟩
    · have q1 : (c1 == 0) = false := beq_eq_false_iff_ne.2 hc1
      clear hc1
      go_wp2_with fail
      refine (HRD.out _ (H.out.below HB3.out)).mono ?_
      rintro e w4 ⟨rfl, hB4⟩
      have hB4' : Below w.heap.size w (w4.alloc (.cells #[.int .u8 zo, .int .u8 za, .int .u8 zb, .int .u8 zc, .int .u32 zi] 24)) := (HB3.out.trans (hB4.mono HB3.out.size)).alloc (Nat.le_trans HB3.out.size hB4.size) _
      have HZ4 : Hid (Bx (w4.alloc (.cells #[.int .u8 zo, .int .u8 za, .int .u8 zb, .int .u8 zc, .int .u32 zi] 24)) w4.heap.size ⟨zo, za, zb, zc, zi⟩) := Lib.hid (Bx.new w4 ⟨zo, za, zb, zc, zi⟩)
      have HB4 := Lib.hid hB4'
      clear hB4 hB4' x0 x1 x2 x3 x4 y0 y1 y2 y3 y4
      go_wp2_with fail
      refine (HZT.out _ (H.out.pw.below HB4.out)).mono ?_
      rintro e w5 ⟨rfl, hB5⟩
      have HZ5 := Lib.hid (HZ4.out.below hB5)
      have HB5 := Lib.hid (HB4.out.trans (hB5.mono HB4.out.size))
      clear hB5 HZ4
      have z0 := HZ5.out.k0
      have z1 := HZ5.out.k1
      have z2 := HZ5.out.k2
      have z3 := HZ5.out.k3
      have z4 := HZ5.out.k4
      go_wp2_with fail
      refine (HZC.out _).mono ?_
      rintro e w6 ⟨rfl, hB6⟩
      have HB6 := Lib.hid (HB5.out.trans (hB6.mono HB5.out.size))
      clear hB6
      go_wp2
      go_ret
      exact ⟨rfl, HB6.out⟩
    · obtain ⟨b1, hb1⟩ : ∃ b, (c1 == 0) = b := ⟨_, rfl⟩
      have q2 : (c2 == 0) = false := beq_eq_false_iff_ne.2 hc2
      clear hc2
      cases b1
      all_goals
        go_wp2_with fail
        refine (HRD.out _ (H.out.below HB3.out)).mono ?_
        rintro e w4 ⟨rfl, hB4⟩
        have hB4' : Below w.heap.size w (w4.alloc (.cells #[.int .u8 zo, .int .u8 za, .int .u8 zb, .int .u8 zc, .int .u32 zi] 24)) := (HB3.out.trans (hB4.mono HB3.out.size)).alloc (Nat.le_trans HB3.out.size hB4.size) _
        have HZ4 : Hid (Bx (w4.alloc (.cells #[.int .u8 zo, .int .u8 za, .int .u8 zb, .int .u8 zc, .int .u32 zi] 24)) w4.heap.size ⟨zo, za, zb, zc, zi⟩) := Lib.hid (Bx.new w4 ⟨zo, za, zb, zc, zi⟩)
        have HB4 := Lib.hid hB4'
        clear hB4 hB4' x0 x1 x2 x3 x4 y0 y1 y2 y3 y4
        go_wp2_with fail
        refine (HZT.out _ (H.out.pw.below HB4.out)).mono ?_
        rintro e w5 ⟨rfl, hB5⟩
        have HZ5 := Lib.hid (HZ4.out.below hB5)
        have HB5 := Lib.hid (HB4.out.trans (hB5.mono HB4.out.size))
        clear hB5 HZ4
        have z0 := HZ5.out.k0
        have z1 := HZ5.out.k1
        have z2 := HZ5.out.k2
        have z3 := HZ5.out.k3
        have z4 := HZ5.out.k4
        go_wp2_with fail
        refine (HZC.out _).mono ?_
        rintro e w6 ⟨rfl, hB6⟩
        have HB6 := Lib.hid (HB5.out.trans (hB6.mono HB5.out.size))
        clear hB6
        go_wp2
        go_ret
        exact ⟨rfl, HB6.out⟩
    · go_wp2_with fail
      refine (HRD.out _ (H.out.below HB3.out)).mono ?_
      rintro e w4 ⟨rfl, hB4⟩
      have hB4' : Below w.heap.size w (w4.alloc (.cells #[.int .u8 zo, .int .u8 za, .int .u8 zb, .int .u8 zc, .int .u32 zi] 24)) := (HB3.out.trans (hB4.mono HB3.out.size)).alloc (Nat.le_trans HB3.out.size hB4.size) _
      have HZ4 : Hid (Bx (w4.alloc (.cells #[.int .u8 zo, .int .u8 za, .int .u8 zb, .int .u8 zc, .int .u32 zi] 24)) w4.heap.size ⟨zo, za, zb, zc, zi⟩) := Lib.hid (Bx.new w4 ⟨zo, za, zb, zc, zi⟩)
      have HB4 := Lib.hid hB4'
      clear hB4 hB4' x0 x1 x2 x3 x4 y0 y1 y2 y3 y4
      go_wp2_with fail
      refine (HZT.out _ (H.out.pw.below HB4.out)).mono ?_
      rintro e w5 ⟨rfl, hB5⟩
      have HZ5 := Lib.hid (HZ4.out.below hB5)
      have HB5 := Lib.hid (HB4.out.trans (hB5.mono HB4.out.size))
      clear hB5 HZ4
      have z0 := HZ5.out.k0
      have z1 := HZ5.out.k1
      have z2 := HZ5.out.k2
      have z3 := HZ5.out.k3
      have z4 := HZ5.out.k4
      go_wp2_with fail
      refine (HZC.out _).mono ?_
      rintro e w6 ⟨rfl, hB6⟩
      have HB6 := Lib.hid (HB5.out.trans (hB6.mono HB5.out.size))
      clear hB6
      go_wp2
      go_ret
      exact ⟨rfl, HB6.out⟩
  · have hrd : ∀ w, Ev w → Calls Tryd.prog 15 #[.string s] w fun e w' => e = .returned (.tuple #[.agg #[.int .u8 0, .int .u8 0, .int .u8 0, .int .u8 0, .int .u32 0], .int .i64 3]) ∧ Below w.heap.size w w' := fun w hw => by
      have := HR.out w hw
      unfold RdPost rdI rdE at this
      rw [if_neg hc, if_neg hc] at this
      exact this
    have HRD := Lib.hid hrd
    clear hrd hc HR
    have hcase := HWX.out
    clear HWX
    rcases hcase with hc1 | hc2 | ⟨rfl, rfl, ht⟩
    · have q1 : (c1 == 0) = false := beq_eq_false_iff_ne.2 hc1
      clear hc1
      go_wp2_with fail
      refine (HRD.out _ (H.out.below HB3.out)).mono ?_
      rintro e w4 ⟨rfl, hB4⟩
      have HB4 := Lib.hid ((HB3.out.trans (hB4.mono HB3.out.size)).alloc (Nat.le_trans HB3.out.size hB4.size) (.cells #[.int .u8 0, .int .u8 0, .int .u8 0, .int .u8 0, .int .u32 0] 24))
      clear hB4 x0 x1 x2 x3 x4 y0 y1 y2 y3 y4
      go_wp2
      go_ret
      exact ⟨rfl, HB4.out⟩
    · obtain ⟨b1, hb1⟩ : ∃ b, (c1 == 0) = b := ⟨_, rfl⟩
      have q2 : (c2 == 0) = false := beq_eq_false_iff_ne.2 hc2
      clear hc2
      cases b1
      all_goals
        go_wp2_with fail
        refine (HRD.out _ (H.out.below HB3.out)).mono ?_
        rintro e w4 ⟨rfl, hB4⟩
        have HB4 := Lib.hid ((HB3.out.trans (hB4.mono HB3.out.size)).alloc (Nat.le_trans HB3.out.size hB4.size) (.cells #[.int .u8 0, .int .u8 0, .int .u8 0, .int .u8 0, .int .u32 0] 24))
        clear hB4 x0 x1 x2 x3 x4 y0 y1 y2 y3 y4
        go_wp2
        go_ret
        exact ⟨rfl, HB4.out⟩
    · go_wp2_with fail
      refine (HRD.out _ (H.out.below HB3.out)).mono ?_
      rintro e w4 ⟨rfl, hB4⟩
      have HB4 := Lib.hid ((HB3.out.trans (hB4.mono HB3.out.size)).alloc (Nat.le_trans HB3.out.size hB4.size) (.cells #[.int .u8 0, .int .u8 0, .int .u8 0, .int .u8 0, .int .u32 0] 24))
      clear hB4 x0 x1 x2 x3 x4 y0 y1 y2 y3 y4
      go_wp2
      go_ret
      exact ⟨rfl, HB4.out⟩
end Go.Proofs.YtlomgbackphmmaaDoor
