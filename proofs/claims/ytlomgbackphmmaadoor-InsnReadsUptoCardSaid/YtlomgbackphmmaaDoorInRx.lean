/- The law InsnReads. -/
import Derived.Test.YtlomgbackphmmaaDoorInRr
import Derived.Test.YtlomgbackphmmaaDoorInE
set_option linter.unusedVariables false
set_option linter.unusedSimpArgs false
namespace Go.Proofs.YtlomgbackphmmaaDoor
open Go.RowKit Go.Lib

theorem both_read (s : ByteArray) (hs : s.size < 4294967281) : ∃ (z : Ins) (r : Int), (∀ w, Ev w → Calls Tryd.prog 15 #[.string s] w fun e w' => e = .returned (.tuple #[.agg z.cells, .int .i64 r]) ∧ Below w.heap.size w w') ∧
    (∀ w, Calls Tryd.prog 16 #[.string s] w fun e w' => e = .returned (.tuple #[.agg z.cells, .int .i64 r]) ∧ Below w.heap.size w w') := by
  have hR := fun w hw => Read_any s hs w hw
  have hok := cand_ok (SplitOf s)
  have hQ := fun w => RefC.RRead s (by omega) w
  refine ⟨rdI (cand (SplitOf s)) s, rdE (cand (SplitOf s)) s, fun w hw => hR w hw, fun w => (hQ w).mono ?_⟩
  rintro e w' ⟨i, r, rfl, hr, hB⟩
  refine ⟨?_, hB⟩
  unfold rdI rdE
  by_cases hc : chk (cand (SplitOf s)) = 0 ∧ txt (cand (SplitOf s)) = s
  · rw [if_pos hc, if_pos hc]
    rcases hr with ⟨rfl, hi, h1, h2⟩ | ⟨_, _, hno⟩
    · rw [txt_inj hi hok h1 hc.1 (h2.trans hc.2.symm)]
    · exact absurd hc (hno _ hok)
  · rw [if_neg hc, if_neg hc]
    rcases hr with ⟨rfl, hi, h1, h2⟩ | ⟨rfl, rfl, hno⟩
    · exfalso
      refine hc ?_
      have := read_back i hi h1
      rw [h2] at this
      rw [this]
      exact ⟨h1, h2⟩
    · rfl

set_option maxRecDepth 100000 in
theorem InsnReads_calls (s : ByteArray) (hs : s.size < 4294967281) (w : World) (h : Ev w) : Calls Tryd.prog 4 #[.string s] w fun e w' => e = .returned (.bool true) ∧ Below w.heap.size w w' := by
  obtain ⟨z, r, hR, hQ⟩ := both_read s hs
  have H := Lib.hid h
  have HS := Lib.hid shown_calls
  obtain ⟨z0, z1, z2, z3, z4⟩ := z
  have HR : Hid (∀ w, Ev w → Calls Tryd.prog 15 #[.string s] w fun e w' => e = .returned (.tuple #[.agg #[.int .u8 z0, .int .u8 z1, .int .u8 z2, .int .u8 z3, .int .u32 z4], .int .i64 r]) ∧ Below w.heap.size w w') := Lib.hid hR
  have HQ : Hid (∀ w, Calls Tryd.prog 16 #[.string s] w fun e w' => e = .returned (.tuple #[.agg #[.int .u8 z0, .int .u8 z1, .int .u8 z2, .int .u8 z3, .int .u32 z4], .int .i64 r]) ∧ Below w.heap.size w w') := Lib.hid hQ
  have heq := fun w => eql_insn z0 z1 z2 z3 z4 z0 z1 z2 z3 z4 w
  rw [decide_eq_true rfl] at heq
  clear hR hQ h
  go_enter Tryd.func4, Tryd.ntmps4
  go_wp2_with fail
  refine (HS.out _ H.out).mono ?_
  rintro e w1 ⟨rfl, hB1⟩
  have HB1 := Lib.hid hB1
  clear hB1
  go_wp2_with fail
  refine (HR.out _ (H.out.below HB1.out)).mono ?_
  rintro e w2 ⟨rfl, hB2⟩
  have HX2 : Hid (Bx (w2.alloc (.cells #[.int .u8 z0, .int .u8 z1, .int .u8 z2, .int .u8 z3, .int .u32 z4] 24)) w2.heap.size ⟨z0, z1, z2, z3, z4⟩) := Lib.hid (Bx.new w2 ⟨z0, z1, z2, z3, z4⟩)
  have HB2 : Hid (Below w.heap.size w (w2.alloc (.cells #[.int .u8 z0, .int .u8 z1, .int .u8 z2, .int .u8 z3, .int .u32 z4] 24))) := Lib.hid ((HB1.out.trans (hB2.mono HB1.out.size)).alloc (Nat.le_trans HB1.out.size hB2.size) _)
  clear hB2 HB1
  go_wp2_with fail
  refine (HQ.out _).mono ?_
  rintro e w3 ⟨rfl, hB3⟩
  have hx3 := HX2.out.below hB3
  have hb3 := HB2.out.trans (hB3.mono HB2.out.size)
  have HX3 : Hid (Bx (w3.alloc (.cells #[.int .u8 z0, .int .u8 z1, .int .u8 z2, .int .u8 z3, .int .u32 z4] 24)) w2.heap.size ⟨z0, z1, z2, z3, z4⟩) := Lib.hid (hx3.below ((Below.refl _ _).alloc (Nat.le_refl _) _))
  have HY3 : Hid (Bx (w3.alloc (.cells #[.int .u8 z0, .int .u8 z1, .int .u8 z2, .int .u8 z3, .int .u32 z4] 24)) w3.heap.size ⟨z0, z1, z2, z3, z4⟩) := Lib.hid (Bx.new w3 ⟨z0, z1, z2, z3, z4⟩)
  have HB3 : Hid (Below w.heap.size w (w3.alloc (.cells #[.int .u8 z0, .int .u8 z1, .int .u8 z2, .int .u8 z3, .int .u32 z4] 24))) := Lib.hid (hb3.alloc hb3.size _)
  clear hB3 hx3 hb3 HX2 HB2
  obtain ⟨x0, x1, x2, x3, x4⟩ := RefC.Bx.all HX3.out
  obtain ⟨y0, y1, y2, y3, y4⟩ := RefC.Bx.all HY3.out
  go_wp2
  go_ret
  exact ⟨rfl, HB3.out⟩
end Go.Proofs.YtlomgbackphmmaaDoor
