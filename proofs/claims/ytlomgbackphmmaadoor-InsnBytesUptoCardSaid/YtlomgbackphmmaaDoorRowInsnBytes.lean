/- The row of InsnBytes: for every input the law returns true, and what was there is as it was. No condition. -/
import Derived.Test.YtlomgbackphmmaaDoorRows
import Derived.Test.YtlomgbackphmmaaDoorInRy
import Derived.Test.YtlomgbackphmmaaDoorInEv
import Derived.Test.YtlomgbackphmmaaDoorInBk
import Derived.Test.YtlomgbackphmmaaDoorPost
import Derived.Test.YtlomgbackphmmaaDoorCol
import Derived.Test.YtlomgbackphmmaaDoorCap
import Derived.WalkKit
import Derived.ProofKit
import Derived.OpenShut
import Derived.ShutString
import Derived.ChangeOld
import Derived.Below
import Derived.SizedLaws
import Derived.Deep.Slices
import Derived.Deep.Fields
import Derived.Lib.SmallJoins
import Derived.LaidMore
import Derived.Stop.Joined
import Derived.Lib.LaidTab
import Derived.SevenTiedAt
import Derived.Deep.DeepHandedRow
import Derived.Lay
import Derived.LaidOnce
import Derived.Test.YtlomgbackphmmaaDoorCards
import Derived.Test.YtlomgbackphmmaaDoorTie
namespace Go.Proofs.YtlomgbackphmmaaDoor.insnBytes
open Go.ChangeShapes Go.WideShapes Go.ChangeAt Go.RowKit Go.Deep Go.Joins
open Go.ChangeMaps (open_string shut_string)
set_option linter.unusedVariables false
set_option linter.unusedSimpArgs false
theorem own : ownKnob Tryd.prog.godebug = none := by kernel_rfl
theorem laidOut : laidOutB Tryd.prog = true := by kernel_rfl
theorem door_met (os : Os) (args : Array Value) : laidMetH Tryd.prog Rows.insnBytesUptoRow.laid ((World.laidAll Tryd.prog os Rows.insnBytesUptoRow.laid).forCall (fun _ _ => 0) ⟨#[], args, []⟩).memory := by
  rw [MakeChecks.laidMetH_plain _ _ _ (by kernel_rfl)]
  exact laidMet_laidAll _ (by kernel_rfl) (by kernel_rfl)
theorem reads (os : Os) {H : Type} (enc : TypeId × Value → H) : ∃ places, DataW.whole enc Tryd.prog ((World.laidAll Tryd.prog os Rows.insnBytesUptoRow.laid).forCall (fun _ _ => 0) ⟨#[], #[.slice none 0 0, .slice none 0 0], []⟩).memory Tryd.f6.params.toList (Rows.OpenSpec.upto Rows.insnBytesSpec).vars false #[.slice none 0 0, .slice none 0 0].toList 8 = some ([.nil, .nil], [], places) := ⟨[], by kernel_rfl⟩
set_option maxRecDepth 100000 in
theorem lifted (os : Os) (started : os.Started) (H : Type) (enc : TypeId × Value → H) (F : Stop.Interp) :
    ReturnsInHanded {} Tryd.checked os 6 .any ((Rows.OpenSpec.upto Rows.insnBytesSpec).preRow enc Tryd.prog Tryd.f6 Rows.insnBytesUptoRow.domain false Rows.insnBytesUptoRow.laid) (((Rows.OpenSpec.upto Rows.insnBytesSpec).at F).post enc Tryd.prog Tryd.f6 false true false false) := by
  obtain ⟨places, hx⟩ := reads os enc
  refine returnsInHanded_of_row (C := Tryd.checked) (s := (Rows.OpenSpec.upto Rows.insnBytesSpec)) own started (by kernel_rfl) Tryd.func6
    (witness_row_at (enc := enc) (C := Tryd.checked) false (World.laidAll Tryd.prog os Rows.insnBytesUptoRow.laid) #[.slice none 0 0, .slice none 0 0] (World.laidAll_os _ _ _) (by kernel_rfl) (by kernel_rfl) (by kernel_rfl)
      (OpenSpec.preRow_of_cond 8 hx (by kernel_rfl) (fun k hk => by cases hk; kernel_rfl) (by kernel_rfl) (door_met os _))) ?_
  intro W base args ds gs before hval0 hW _ hcond hsz0 hL hsh _
  have hbk : Rows.uptoBulkAll (ds ++ gs) ≤ 1048576 := of_decide_eq_true (hcond _ rfl)
  have hsz : (DataW.weightsEach Tryd.prog (Tryd.f6.params.toList ++ Rows.insnBytesSpec.plain.varTypes Tryd.prog) (ds ++ gs)).all (· ≤ reachBytes) = true := hsz0
  have hval : ∀ (j : Nat) t v, Tryd.f6.params[j]? = some t → args[j]? = some v → Value.okWide Tryd.prog W .any base t v := hval0
  have hW' := hW
  obtain ⟨p, q, hA0, hV, rfl, hfz, hnd⟩ := hW
  have hA : DataW.TrodAll enc Tryd.prog W 0 (fun _ => true) true Tryd.f6.params.toList args.toList ds p := hA0
  rw [Tryd.params6] at hA hval hsz
  obtain ⟨v0, vs0, d0, ds0, p0, q0, hargs, rfl, rfl, h0, r0⟩ := trodAll_cons hA
  obtain ⟨v1, vs1, d1, ds1, p1, q1, rfl, rfl, rfl, h1, r1⟩ := trodAll_cons r0
  obtain ⟨rfl, rfl, rfl⟩ := trodAll_nil r1
  obtain rfl : args = #[v0, v1] := by cases args; simp_all
  obtain ⟨rfl, rfl⟩ := trodVars_none hV
  obtain ⟨a0, len0, cap0, rfl⟩ := okWide_slice Tryd.underlying40 (hval 0 40 v0 rfl rfl)
  have k0 := h0
  have lt0 : ∀ x ∈ p0, x.block < W.heap.size := by obtain ⟨m, hm⟩ := k0; exact DataW.trod_lt m _ _ _ hm
  obtain ⟨fuel0, hf0⟩ := h0
  obtain ⟨hm0, C0⟩ := cells_of_structs Tryd.underlying40 Tryd.underlying24 (by kernel_rfl) (by kernel_rfl) hf0
  obtain ⟨f0_0, c0_0⟩ := colI_of Tryd.underlying5 (C0 0 _ rfl)
  obtain ⟨f0_1, c0_1⟩ := colI_of Tryd.underlying5 (C0 1 _ rfl)
  obtain ⟨f0_2, c0_2⟩ := colI_of Tryd.underlying5 (C0 2 _ rfl)
  obtain ⟨f0_3, c0_3⟩ := colI_of Tryd.underlying5 (C0 3 _ rfl)
  obtain ⟨f0_4, c0_4⟩ := colI_of Tryd.underlying22 (C0 4 _ rfl)
  obtain ⟨a1, len1, cap1, rfl⟩ := okWide_slice Tryd.underlying41 (hval 1 41 v1 rfl rfl)
  have k1 := h1
  have lt1 : ∀ x ∈ p1, x.block < W.heap.size := by obtain ⟨m, hm⟩ := k1; exact DataW.trod_lt m _ _ _ hm
  obtain ⟨fuel1, hf1⟩ := h1
  have lc1 := len_le_cap Tryd.underlying41 hf1
  obtain ⟨hm1, C1⟩ := cells_of_ones Tryd.underlying41 (by kernel_rfl) hf1
  obtain ⟨f1, c1⟩ := colI_of Tryd.underlying5 C1
  have bk0 := bulk_slice Tryd.underlying40 hf0
  have bk1 := bulk_slice Tryd.underlying41 hf1
  simp only [List.cons_append, List.nil_append, List.append_nil, Rows.uptoBulkAll, Rows.uptoBulk] at hbk
  clear hA0 hval0 hsz0 hsz
  refine (InsnBytes_row a0 a1 len0 len1 cap0 cap1 W c0_0 c0_1 c0_2 c0_3 c0_4 c1 lc1 (by have := bk0; omega) (by have := bk1; omega) (ev_of_laid hL hsh)).mono fun e W' ⟨he, bel0⟩ => ?_
  have bel := bel0
  subst he
  exact ⟨_, rfl, _, _, _, [], _, [], hW', trodAll_mk1 (shut_bool Tryd.underlying4 _), (trodAll_cons_mk (Below.trod laidOut (by kernel_rfl) (of_decide_eq_true (by kernel_rfl)) k0 bel lt0) (trodAll_cons_mk (Below.trod laidOut (by kernel_rfl) (of_decide_eq_true (by kernel_rfl)) k1 bel lt1) trodAll_mk0)), rfl, bel.frame _, fun h => by cases h⟩
theorem proved : Rows.InsnBytesUptoSaid :=
  OpenClaim.holds_of_cond 6 Tryd.f6 rfl rfl rfl rfl rfl rfl rfl ⟨rfl, rfl, rfl, rfl, rfl⟩ rfl rfl rfl rfl rfl (by kernel_rfl) Tryd.func6 (by kernel_rfl)
    (of_decide_eq_true (by kernel_rfl)) (by unfold Func.isWrapper; first | (rw [if_pos (by decide +kernel)]; kernel_rfl) | (rw [if_neg (by decide +kernel)]; exact ⟨rfl, rfl⟩))
    (fun os started H enc _ F => by rw [OpenClaim.pre_eq_preRow]; exact lifted os started H enc F)
theorem card_proved : Rows.InsnBytesUptoCardSaid :=
  Claim7.holds_tied_plain_at .later [] [.data, .data, .data, .data, .pinned] true (true, "bf96893554829ebf901e50793cef863f5f681881d84ef184b7ade5c110bf5afc") false
    proved (fun _ h => by cases h) (by kernel_rfl) (fun _ h => by cases h) insnBytesUpto_row_tie rfl ⟨rfl, rfl⟩ (by kernel_rfl) rfl
    (fun f fn hf hfn => by
      obtain rfl : f = 6 := Option.some.inj ((show Tryd.prog.funcNamed "turnbuckle/turnbucklelaw06.InsnBytes" = some 6 by kernel_rfl).symm.trans hf) |>.symm
      obtain rfl : fn = Tryd.f6 := (Option.some.inj (Tryd.func6.symm.trans hfn)).symm
      exact ⟨by kernel_rfl, fun j t ht => by
        rw [Tryd.params6] at ht
        have hm : t ∈ [40, 41] := by simpa using Array.mem_of_getElem? ht
        have hall : ([40, 41].all fun u => !Tryd.prog.wantsStandIn u) = true := by kernel_rfl
        exact (show Tryd.prog.wantsStandIn t = false by simpa using List.all_eq_true.1 hall t hm)⟩)
    (by kernel_rfl)
end Go.Proofs.YtlomgbackphmmaaDoor.insnBytes
namespace Go.Proofs.YtlomgbackphmmaaDoor
/-- The statement, under a short name, for the claim. -/
theorem insnBytes_holds : Rows.InsnBytesUptoCardSaid := insnBytes.card_proved
#print axioms insnBytes_holds
end Go.Proofs.YtlomgbackphmmaaDoor
