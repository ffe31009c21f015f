/- insn.Bytes: the walk. -/
import Derived.Test.YtlomgbackphmmaaDoorInB0
set_option linter.unusedVariables false
set_option linter.unusedSimpArgs false
namespace Go.Proofs.YtlomgbackphmmaaDoor
open Go.RowKit Go.Lib

set_option maxRecDepth 100000 in
set_option maxHeartbeats 4000000 in
theorem Bytes_any (A : Option Addr) (cap : Nat) (L : List Ins) (w : World) (hP : Pr w A L) (hl : 8 * L.length ≤ 140737488355000) :
    Calls Tryd.prog 20 #[.slice A L.length cap] w fun e w' => ∃ v, e = .returned v ∧ w'.ownsRow w.heap.size 5 1 v (8 * L.length) (u8s (encs L)) ∧ Below w.heap.size w w' := by
  obtain ⟨i0, hi, hz0, hz1, hz2⟩ := info_parts byte_info
  have HP := Lib.hid hP
  clear hP
  generalize hn : L.length = n at *
  have HN := Lib.hid hn
  clear hn
  have HL := Lib.hid hl
  clear hl
  go_enter Tryd.func20, Tryd.ntmps20
  go_wp2_with fail
  go_loopw [3, 9] (fun v iv wr => ∃ i : Nat, i ≤ n ∧ iv = .int .i64 (i : Int) ∧ wr.ownsRow w.heap.size 5 1 v (8 * i) (u8s (encs (L.take i))) ∧ Below w.heap.size w wr) (fun _ iv _ => n - (RowKit.intOf iv).toNat)
  case atStart => exact ⟨0, by omega, rfl, World.ownsRow_nil _ _ _ _, Below.refl _ _⟩
  case round =>
    obtain ⟨i, hin, rfl, hrow, hB⟩ := hrel
    by_cases hgo : i < n
    · obtain ⟨ad, rfl, hlt, c0, c1, c2, c3, c4⟩ := (HP.out.below hB).at_ i (by rw [HN.out]; exact hgo)
      have hok := HP.out.okD i
      obtain ⟨x, hx⟩ : ∃ x, x = L.getD i z0 := ⟨_, rfl⟩
      rw [← hx] at c0 c1 c2 c3 c4 hok
      have hS0 := Lay.start hrow hB x
      have HS0 := Lib.hid hS0
      have hw : w.heap.size ≤ wr.heap.size := hB.size
      have HX := Lib.hid hx
      obtain ⟨E0, hE⟩ : ∃ E, E = encs (L.take i) := ⟨_, rfl⟩
      rw [← hE] at HS0
      have HE := Lib.hid hE
      clear hE
      obtain ⟨op, a, b, c, imm⟩ := x
      dsimp only at c0 c1 c2 c3 c4
      have HOK := Lib.hid hok
      clear hok hx hS0 hB hrow
      have hl := HL.out
      obtain ⟨A8, c8, rfl⟩ := row_form HS0.out.row
      go_wp2_with (at_builtin; refine wpList_append_own _ rfl _ _ 41 rfl w.heap.size 5 i0 (.int .u8 0) 1 1 Tryd.underlying41 hi hz0 hz1 hz2 rfl (by decide) _ _ _ rfl (HS0.out.row.alloc _) ⟨wr.heap.size + 1, 0, none⟩ 4 4 [.int .u8 op, .int .u8 a, .int .u8 b, .int .u8 c] rfl rfl ?c1 ?c2 ?c3 ?c4 ?c5 ?_)
      case c1 =>
        have := new_bytes4 (wr.alloc (.cells #[.int .u8 op, .int .u8 a, .int .u8 b, .int .u8 c, .int .u32 imm] 24)) 5 (.int .u8 op) (.int .u8 a) (.int .u8 b) (.int .u8 c)
        rw [World.size_alloc] at this
        exact this
      case c2 => intro u hu; simp at hu; rcases hu with rfl | rfl | rfl | rfl <;> rfl
      case c3 => unfold maxLen; omega
      case c4 => omega
      case c5 => have := HS0.out.below.size; simp at this ⊢; omega
      intro v1 w1 ho1 hg1 _
      have hS1 := HS0.out.turn (j := 4) (m := [op, a, b, c]) (by simpa [u8s] using ho1) hg1
      have HS1 := Lib.hid hS1
      have k4 := hS1.bx.k4
      clear ho1 hg1 hS1 HS0 c0 c1 c2 c3 c4
      obtain ⟨A1, c1, rfl⟩ := row_form HS1.out.row
      go_wp2_with fail
      refine wp_loop_rounds 5 ?_
      rw [rounds_succ]
      go_wp2_with (at_builtin; refine wpList_append_own _ rfl _ _ 41 rfl w.heap.size 5 i0 (.int .u8 0) 1 1 Tryd.underlying41 hi hz0 hz1 hz2 rfl (by decide) _ _ _ rfl (HS1.out.row.alloc _) ⟨w1.heap.size, 0, none⟩ 1 1 [.int .u8 (imm % 256)] rfl rfl ?c1 ?c2 ?c3 ?c4 ?c5 ?_)
      case c1 => exact new_bytes1 _ _ _
      case c2 => intro u hu; simp at hu; subst hu; rfl
      case c3 => unfold maxLen; omega
      case c4 => omega
      case c5 => have := HS1.out.below.size; simp at this ⊢; omega
      intro v2 w2 ho2 hg2 _
      have hS2 := HS1.out.turn (j := 1) (m := [imm % 256]) (by simpa [u8s] using ho2) hg2
      have HS2 := Lib.hid hS2
      clear k4
      have k4 := hS2.bx.k4
      clear ho2 hg2 hS2 HS1
      obtain ⟨A2, c2, rfl⟩ := row_form HS2.out.row
      go_wp2_with fail
      rw [rounds_succ]
      go_wp2_with (at_builtin; refine wpList_append_own _ rfl _ _ 41 rfl w.heap.size 5 i0 (.int .u8 0) 1 1 Tryd.underlying41 hi hz0 hz1 hz2 rfl (by decide) _ _ _ rfl (HS2.out.row.alloc _) ⟨w2.heap.size, 0, none⟩ 1 1 [.int .u8 (imm / 256 % 256)] rfl rfl ?c1 ?c2 ?c3 ?c4 ?c5 ?_)
      case c1 => exact new_bytes1 _ _ _
      case c2 => intro u hu; simp at hu; subst hu; rfl
      case c3 => unfold maxLen; omega
      case c4 => omega
      case c5 => have := HS2.out.below.size; simp at this ⊢; omega
      intro v3 w3 ho3 hg3 _
      have hS3 := HS2.out.turn (j := 1) (m := [imm / 256 % 256]) (by simpa [u8s] using ho3) hg3
      have HS3 := Lib.hid hS3
      clear k4
      have k4 := hS3.bx.k4
      clear ho3 hg3 hS3 HS2
      obtain ⟨A3, c3, rfl⟩ := row_form HS3.out.row
      go_wp2_with fail
      rw [rounds_succ]
      go_wp2_with (at_builtin; refine wpList_append_own _ rfl _ _ 41 rfl w.heap.size 5 i0 (.int .u8 0) 1 1 Tryd.underlying41 hi hz0 hz1 hz2 rfl (by decide) _ _ _ rfl (HS3.out.row.alloc _) ⟨w3.heap.size, 0, none⟩ 1 1 [.int .u8 (imm / 65536 % 256)] rfl rfl ?c1 ?c2 ?c3 ?c4 ?c5 ?_)
      case c1 => exact new_bytes1 _ _ _
      case c2 => intro u hu; simp at hu; subst hu; rfl
      case c3 => unfold maxLen; omega
      case c4 => omega
      case c5 => have := HS3.out.below.size; simp at this ⊢; omega
      intro v4 w4 ho4 hg4 _
      have hS4 := HS3.out.turn (j := 1) (m := [imm / 65536 % 256]) (by simpa [u8s] using ho4) hg4
      have HS4 := Lib.hid hS4
      clear k4
      have k4 := hS4.bx.k4
      clear ho4 hg4 hS4 HS3
      obtain ⟨A4, c4, rfl⟩ := row_form HS4.out.row
      go_wp2_with fail
      rw [rounds_succ]
      go_wp2_with (at_builtin; refine wpList_append_own _ rfl _ _ 41 rfl w.heap.size 5 i0 (.int .u8 0) 1 1 Tryd.underlying41 hi hz0 hz1 hz2 rfl (by decide) _ _ _ rfl (HS4.out.row.alloc _) ⟨w4.heap.size, 0, none⟩ 1 1 [.int .u8 (imm / 16777216 % 256)] rfl rfl ?c1 ?c2 ?c3 ?c4 ?c5 ?_)
      case c1 => exact new_bytes1 _ _ _
      case c2 => intro u hu; simp at hu; subst hu; rfl
      case c3 => unfold maxLen; omega
      case c4 => omega
      case c5 => have := HS4.out.below.size; simp at this ⊢; omega
      intro v5 w5 ho5 hg5 _
      have hS5 := HS4.out.turn (j := 1) (m := [imm / 16777216 % 256]) (by simpa [u8s] using ho5) hg5
      have HS5 := Lib.hid hS5
      clear k4
      have k4 := hS5.bx.k4
      clear ho5 hg5 hS5 HS4
      obtain ⟨A5, c5, rfl⟩ := row_form HS5.out.row
      go_wp2_with fail
      rw [rounds_succ]
      go_wp2_with fail
      go_roundw
      case rel =>
        refine ⟨i + 1, by omega, by go_num, ?_, HS5.out.below⟩
        have e : encs (L.take (i + 1)) = encs (L.take i) ++ enc ⟨op, a, b, c, imm⟩ := by
          rw [List.take_add_one, encs_append, List.getElem?_eq_getElem (by rw [HN.out]; exact hgo), HX.out]
          rw [List.getD_eq_getElem?_getD, List.getElem?_eq_getElem (by rw [HN.out]; exact hgo)]
          simp [encs]
        have := HS5.out.row
        rw [e, ← HE.out, show 8 * (i + 1) = 8 * i + 4 + 1 + 1 + 1 + 1 from by omega]
        simpa [enc, u8s] using this
      case measure => simp [RowKit.intOf]; omega
    · obtain rfl : i = n := by omega
      rw [List.take_of_length_le (by rw [HN.out]; exact Nat.le_refl _)] at hrow
      have HR := Lib.hid hrow
      have HB := Lib.hid hB
      clear hrow hB
      obtain ⟨A8, c8, rfl⟩ := row_form HR.out
      go_wp2
      go_ret
      exact ⟨_, rfl, HR.out, HB.out⟩
end Go.Proofs.YtlomgbackphmmaaDoor
