/- The law's head (layer 6): shown. -/
import Derived.Test.YtlomgbackphmmaaDoorInR3
import Derived.Test.YtlomgbackphmmaaDoorInR4
import Derived.Test.YtlomgbackphmmaaDoorInQ3
set_option linter.unusedVariables false
set_option linter.unusedSimpArgs false
namespace Go.Proofs.YtlomgbackphmmaaDoor
open Go.RowKit Go.Lib

/-- What the library's variables hold. -/
structure Ev (w : World) : Prop where
  pw : Pw w
  mx : ∃ m, w.cell? ⟨1, 0, none⟩ = some (.int .i64 m)
theorem Ev.below {w w1 : World} (h : Ev w) (hb : Below w.heap.size w w1) : Ev w1 := ⟨h.pw.below hb, by
  obtain ⟨m, hm⟩ := h.mx
  exact ⟨m, (hb.cell (p := ⟨1, 0, none⟩) (World.block_lt_of_cell? _ _ hm)).trans hm⟩⟩
theorem Read_any (s : ByteArray) (hs : s.size < 4294967281) (w : World) (h : Ev w) : Calls Tryd.prog 15 #[.string s] w (RdPost (cand (SplitOf s)) s w) := by
  obtain ⟨m, hm⟩ := h.mx
  have hr := opF_range (ptAt (SplitOf s) 0).data.toList
  by_cases h7 : (opF (ptAt (SplitOf s) 0).data.toList).1 ≤ 7
  · exact Read_1 s hs m w h.pw ⟨hr.1, h7⟩ hm
  · exact Read_8 s hs m w h.pw ⟨by omega, hr.2.1⟩ hm
/-- Text, whatever the instruction. -/
def tx (x : Ins) : ByteArray := if chk x = 0 then txt x else ⟨#[]⟩
theorem Text_any (x : Ins) (hx : x.Ok) (w : World) (h : Pw w) : Calls Tryd.prog 11 #[.agg x.cells] w fun e w' => e = .returned (.tuple #[.string (tx x), .int .i64 (chk x)]) ∧ Below w.heap.size w w' := by
  unfold tx
  by_cases hc : chk x = 0
  · rw [if_pos hc, hc]
    exact Text_ok x hx hc w h
  · rw [if_neg hc]
    exact Text_bad x hx hc w

def x1 : Ins := ⟨7, 1, 0, 1, 3⟩
def x2 : Ins := ⟨12, 1, 2, 0, 5⟩
theorem x1_ok : x1.Ok := by constructor <;> decide
theorem x2_ok : x2.Ok := by constructor <;> decide
theorem x1_txt : txt x1 = ⟨#[106, 101, 113, 105, 32, 114, 49, 32, 48, 32, 43, 51]⟩ := data_inj (by decide +kernel)
theorem x2_txt : txt x2 = ⟨#[112, 117, 116, 32, 114, 50, 32, 102, 48, 32, 53, 32, 114, 49]⟩ := data_inj (by decide +kernel)
theorem x1_chk : chk x1 = 0 := by decide
theorem x2_chk : chk x2 = 0 := by decide

set_option maxRecDepth 100000 in
set_option maxHeartbeats 4000000 in
theorem shown_calls (w : World) (h : Ev w) : Calls Tryd.prog 10 #[] w fun e w' => e = .returned (.bool true) ∧ Below w.heap.size w w' := by
  have H := Lib.hid h
  have hT := fun w hw => Text_any x1 x1_ok w hw
  unfold tx at hT
  rw [if_pos x1_chk, x1_chk, x1_txt] at hT
  have HT := Lib.hid hT
  have hR := fun w hw => Read_any (txt x2) (by have := txt_size x2 x2_ok; omega) w hw
  unfold RdPost at hR
  rw [(rd_back x2 x2_ok x2_chk).1, (rd_back x2 x2_ok x2_chk).2, x2_txt, show x2.cells = #[.int .u8 12, .int .u8 1, .int .u8 2, .int .u8 0, .int .u32 5] from rfl] at hR
  have HR := Lib.hid hR
  have hC := fun w => Check_any ⟨5, 0, 0, 0, 0⟩ (by constructor <;> decide) w
  rw [show chk ⟨5, 0, 0, 0, 0⟩ = 4 from by decide] at hC
  have hD := fun w => Check_any ⟨1, 0, 0, 1, 0⟩ (by constructor <;> decide) w
  rw [show chk ⟨1, 0, 0, 1, 0⟩ = 1 from by decide] at hD
  have HC := Lib.hid hC
  have HD := Lib.hid hD
  clear hT hR hC hD h
  go_enter Tryd.func10, Tryd.ntmps10
  go_wp2_with fail
  refine (HT.out _ H.out.pw).mono ?_
  rintro e w1 ⟨rfl, hB1⟩
  have HB1 := Lib.hid hB1
  clear hB1
  go_wp2_with fail
  refine (HR.out _ (H.out.below HB1.out)).mono ?_
  rintro e w2 ⟨rfl, hB2⟩
  have HB2 := Lib.hid (HB1.out.trans (hB2.mono HB1.out.size))
  clear hB2
  go_wp2_with fail
  refine (HC.out _).mono ?_
  rintro e w3 ⟨rfl, hB3⟩
  have HB3 := Lib.hid ((HB2.out.alloc HB2.out.size _).trans (hB3.mono (by rw [World.size_alloc]; have := HB2.out.size; omega)))
  clear hB3
  go_wp2_with fail
  refine (HD.out _).mono ?_
  rintro e w4 ⟨rfl, hB4⟩
  have HB4 := Lib.hid (HB3.out.trans (hB4.mono HB3.out.size))
  clear hB4
  go_wp2
  go_ret
  exact ⟨rfl, HB4.out⟩
end Go.Proofs.YtlomgbackphmmaaDoor
