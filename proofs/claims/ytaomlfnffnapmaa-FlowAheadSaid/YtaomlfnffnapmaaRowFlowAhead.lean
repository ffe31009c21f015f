/- The row of FlowAhead: for every input the law returns true, and what was there is as it was. No condition. -/
import Derived.Test.YtaomlfnffnapmaaRows
import Derived.Test.YtaomlfnffnapmaaFlAhead
import Derived.Test.YtaomlfnffnapmaaFive
import Derived.WalkKit
import Derived.ProofKit
import Derived.OpenShut
import Derived.ShutString
import Derived.ChangeOld
import Derived.Below
import Derived.SizedLaws
import Derived.Deep.Slices
import Derived.Deep.Fields
import Derived.Lib.SmallJoins
namespace Go.Proofs.Ytaomlfnffnapmaa.flowAhead
open Go.ChangeShapes Go.WideShapes Go.ChangeAt Go.RowKit Go.Deep Go.Joins
open Go.ChangeMaps (open_string shut_string)
set_option linter.unusedVariables false
theorem own : ownKnob Try.prog.godebug = none := by kernel_rfl
theorem laidOut : laidOutB Try.prog = true := by kernel_rfl
set_option maxRecDepth 100000 in
theorem lifted (os : Os) (started : os.Started) (H : Type) (enc : TypeId × Value → H) :
    ReturnsInHanded {} Try.checked os 8 .any (Rows.flowAheadSpec.pre6 enc Try.prog Try.f8 Rows.flowAheadRow.domain false) (Rows.flowAheadSpec.post enc Try.prog Try.f8 false true false false) := by
  refine returnsInHanded_of_change_sized (C := Try.checked) own started (by kernel_rfl) Try.func8
    (ChangeSpec.witness6 (enc := enc) (C := Try.checked) false ⟨#[], #[.slice none 0 0, .agg #[.int .u8 0, .int .u8 0, .int .u8 0, .int .u8 0, .int .u32 0]], []⟩ 8 (by kernel_rfl) (by kernel_rfl) (by kernel_rfl) (by kernel_rfl)) ?_
  intro W base args ds gs before hval0 hW hcnd hsz0 _
  have hsz : (DataW.weightsEach Try.prog (Try.f8.params.toList ++ Rows.flowAheadSpec.plain.varTypes Try.prog) (ds ++ gs)).all (· ≤ reachBytes) = true := hsz0
  have hval : ∀ (j : Nat) t v, Try.f8.params[j]? = some t → args[j]? = some v → Value.okWide Try.prog W .any base t v := hval0
  have hW' := hW
  obtain ⟨p, q, hA0, hV, rfl, hfz, hnd⟩ := hW
  have hA : DataW.TrodAll enc Try.prog W 0 (fun _ => true) true Try.f8.params.toList args.toList ds p := hA0
  rw [Try.params8] at hA hval hsz
  obtain ⟨v0, vs0, d0, ds0, p0, q0, hargs, rfl, rfl, h0, r0⟩ := trodAll_cons hA
  obtain ⟨v1, vs1, d1, ds1, p1, q1, rfl, rfl, rfl, h1, r1⟩ := trodAll_cons r0
  obtain ⟨rfl, rfl, rfl⟩ := trodAll_nil r1
  obtain rfl : args = #[v0, v1] := by cases args; simp_all
  obtain ⟨rfl, rfl⟩ := trodVars_none hV
  obtain ⟨a0, len0, cap0, rfl⟩ := okWide_slice Try.underlying22 (hval 0 22 v0 rfl rfl)
  have k0 := h0
  have lt0 : ∀ x ∈ p0, x.block < W.heap.size := by obtain ⟨m, hm⟩ := k0; exact DataW.trod_lt m _ _ _ hm
  obtain ⟨fuel0, hf0⟩ := h0
  obtain ⟨hm0, C0⟩ := cells_of_structs Try.underlying22 Try.underlying37 (by kernel_rfl) (by kernel_rfl) hf0
  obtain ⟨f0_0, c0_0⟩ := colI_of Try.underlying5 (C0 0 _ rfl)
  obtain ⟨f0_1, c0_1⟩ := colI_of Try.underlying5 (C0 1 _ rfl)
  obtain ⟨f0_2, c0_2⟩ := colI_of Try.underlying5 (C0 2 _ rfl)
  obtain ⟨f0_3, c0_3⟩ := colI_of Try.underlying5 (C0 3 _ rfl)
  obtain ⟨f0_4, c0_4⟩ := colI_of Try.underlying35 (C0 4 _ rfl)
  have k1 := h1
  have lt1 : ∀ x ∈ p1, x.block < W.heap.size := by obtain ⟨m, hm⟩ := k1; exact DataW.trod_lt m _ _ _ hm
  obtain ⟨v1_0, v1_1, v1_2, v1_3, v1_4, y1_0, y1_1, y1_2, y1_3, y1_4, n1_, rfl, _, _, h1_0, h1_1, h1_2, h1_3, h1_4⟩ := open_agg5 Try.underlying37 (by kernel_rfl) (by kernel_rfl) (hval 1 37 v1 rfl rfl) h1
  obtain ⟨a1_0, e1_0, _, w1_0⟩ := DataW.trod_int Try.underlying5 h1_0
  simp at e1_0
  subst e1_0
  obtain ⟨a1_1, e1_1, _, w1_1⟩ := DataW.trod_int Try.underlying5 h1_1
  simp at e1_1
  subst e1_1
  obtain ⟨a1_2, e1_2, _, w1_2⟩ := DataW.trod_int Try.underlying5 h1_2
  simp at e1_2
  subst e1_2
  obtain ⟨a1_3, e1_3, _, w1_3⟩ := DataW.trod_int Try.underlying5 h1_3
  simp at e1_3
  subst e1_3
  obtain ⟨a1_4, e1_4, _, w1_4⟩ := DataW.trod_int Try.underlying35 h1_4
  simp at e1_4
  subst e1_4
  clear hA0 hval0 hsz0 hsz
  refine (FlowAhead_row a0 len0 cap0 a1_0 a1_1 a1_2 a1_3 a1_4 W c0_0 c0_1 c0_2 c0_3 c0_4 (bd_u8 w1_0) (bd_u8 w1_1) (bd_u8 w1_2) (bd_u8 w1_3) (bd_u32 w1_4)).mono fun e W' ⟨he, bel0⟩ => ?_
  have bel := bel0.below
  subst he
  exact ⟨_, rfl, _, _, _, [], _, [], hW', trodAll_mk1 (shut_bool Try.underlying4 _), (trodAll_cons_mk (Below.trod laidOut (by kernel_rfl) (of_decide_eq_true (by kernel_rfl)) k0 bel lt0) (trodAll_cons_mk (Below.trod laidOut (by kernel_rfl) (of_decide_eq_true (by kernel_rfl)) k1 bel lt1) trodAll_mk0)), rfl, bel.frame _, fun h => by cases h⟩
theorem over : Rows.flowAheadRow.holds Try.pinned (OpenSpec.ofChange Rows.flowAheadSpec) :=
  OpenClaim.holds_of_wide 8 Try.f8 rfl rfl rfl rfl rfl rfl rfl ⟨rfl, rfl, rfl, rfl, rfl⟩ rfl rfl rfl rfl rfl (by kernel_rfl) Try.func8 (by kernel_rfl)
    (of_decide_eq_true (by kernel_rfl)) (by unfold Func.isWrapper; first | (rw [if_pos (by decide +kernel)]; kernel_rfl) | (rw [if_neg (by decide +kernel)]; exact ⟨rfl, rfl⟩))
    (fun os started H enc _ => lifted os started H enc)
theorem proved : Rows.FlowAheadSaid := over
end Go.Proofs.Ytaomlfnffnapmaa.flowAhead
namespace Go.Proofs.Ytaomlfnffnapmaa
/-- The statement, under a short name, for the claim. -/
theorem flowAhead_holds : Rows.FlowAheadSaid := flowAhead.proved
#print axioms flowAhead_holds
end Go.Proofs.Ytaomlfnffnapmaa
