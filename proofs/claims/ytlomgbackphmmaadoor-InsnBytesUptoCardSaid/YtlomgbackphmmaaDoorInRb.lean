/- The reference's Bytes: the walk. -/
import Derived.Test.YtlomgbackphmmaaDoorInB0
set_option linter.unusedVariables false
set_option linter.unusedSimpArgs false
namespace Go.Proofs.YtlomgbackphmmaaDoor
open Go.RowKit Go.Lib

theorem new_bytes8 (w : World) (T : TypeId) (a b c d e f g h : Value) : ∀ j u, [a, b, c, d, e, f, g, h][j]? = some u → (w.alloc (.cells #[a, b, c, d, e, f, g, h] T)).cell? ((⟨w.heap.size, 0, none⟩ : Addr).add j) = some u := by
  intro j u hj
  match j, hj with
  | 0, hj => simp at hj; subst hj; simp [Addr.add]
  | 1, hj => simp at hj; subst hj; simp [Addr.add]
  | 2, hj => simp at hj; subst hj; simp [Addr.add]
  | 3, hj => simp at hj; subst hj; simp [Addr.add]
  | 4, hj => simp at hj; subst hj; simp [Addr.add]
  | 5, hj => simp at hj; subst hj; simp [Addr.add]
  | 6, hj => simp at hj; subst hj; simp [Addr.add]
  | 7, hj => simp at hj; subst hj; simp [Addr.add]
  | j + 8, hj => simp at hj
set_option maxRecDepth 100000 in
set_option maxHeartbeats 4000000 in
theorem RBytes_any (A : Option Addr) (cap : Nat) (L : List Ins) (w : World) (hP : Pr w A L) (hl : 8 * L.length ≤ 140737488355000) :
    Calls Tryd.prog 21 #[.slice A L.length cap] w fun e w' => ∃ v, e = .returned v ∧ w'.ownsRow w.heap.size 5 1 v (8 * L.length) (u8s (encs L)) ∧ Below w.heap.size w w' := by
  obtain ⟨i0, hi, hz0, hz1, hz2⟩ := info_parts byte_info
  have HP := Lib.hid hP
  clear hP
  generalize hn : L.length = n at *
  have HN := Lib.hid hn
  clear hn
  have HL := Lib.hid hl
  clear hl
  go_enter Tryd.func21, Tryd.ntmps21
  go_wp2_with fail
  go_loopw [3, 4] (fun v iv wr => ∃ i : Nat, i ≤ n ∧ iv = .int .i64 (i : Int) ∧ wr.ownsRow w.heap.size 5 1 v (8 * i) (u8s (encs (L.take i))) ∧ Below w.heap.size w wr) (fun _ iv _ => n - (RowKit.intOf iv).toNat)
  case atStart => exact ⟨0, by omega, rfl, World.ownsRow_nil _ _ _ _, Below.refl _ _⟩
  case round =>
    obtain ⟨i, hin, rfl, hrow, hB⟩ := hrel
    by_cases hgo : i < n
    · obtain ⟨ad, rfl, hlt, c0, c1, c2, c3, c4⟩ := (HP.out.below hB).at_ i (by rw [HN.out]; exact hgo)
      have hok := HP.out.okD i
      obtain ⟨x, hx⟩ : ∃ x, x = L.getD i z0 := ⟨_, rfl⟩
      rw [← hx] at c0 c1 c2 c3 c4 hok
      have hS0 := Lay.start hrow hB x
      have HS0 := Lib.hid hS0
      have hw : w.heap.size ≤ wr.heap.size := hB.size
      have HX := Lib.hid hx
      obtain ⟨E0, hE⟩ : ∃ E, E = encs (L.take i) := ⟨_, rfl⟩
      rw [← hE] at HS0
      have HE := Lib.hid hE
      clear hE
      obtain ⟨op, a, b, c, imm⟩ := x
      dsimp only at c0 c1 c2 c3 c4
      have hi0 := hok.imm.1
      have hi1 := hok.imm.2
      dsimp only at hi0 hi1
      clear hok hx hS0 hB hrow
      have hl := HL.out
      obtain ⟨A8, c8, rfl⟩ := row_form HS0.out.row
      have e3 : imm / 16777216 % 256 = imm / 16777216 := by omega
      go_wp2_with (at_builtin; refine wpList_append_own _ rfl _ _ 41 rfl w.heap.size 5 i0 (.int .u8 0) 1 1 Tryd.underlying41 hi hz0 hz1 hz2 rfl (by decide) _ _ _ rfl (HS0.out.row.alloc _) ⟨wr.heap.size + 1, 0, none⟩ 8 8 [.int .u8 op, .int .u8 a, .int .u8 b, .int .u8 c, .int .u8 (imm % 256), .int .u8 (imm / 256 % 256), .int .u8 (imm / 65536 % 256), .int .u8 (imm / 16777216)] rfl rfl ?c1 ?c2 ?c3 ?c4 ?c5 ?_)
      case c1 =>
        have := new_bytes8 (wr.alloc (.cells #[.int .u8 op, .int .u8 a, .int .u8 b, .int .u8 c, .int .u32 imm] 24)) 5 (.int .u8 op) (.int .u8 a) (.int .u8 b) (.int .u8 c) (.int .u8 (imm % 256)) (.int .u8 (imm / 256 % 256)) (.int .u8 (imm / 65536 % 256)) (.int .u8 (imm / 16777216))
        rw [World.size_alloc] at this
        exact this
      case c2 => intro u hu; simp at hu; rcases hu with rfl | rfl | rfl | rfl | rfl | rfl | rfl | rfl <;> rfl
      case c3 => unfold maxLen; omega
      case c4 => omega
      case c5 => have := HS0.out.below.size; simp at this ⊢; omega
      intro v1 w1 ho1 hg1 _
      have hS1 := HS0.out.turn (j := 8) (m := [op, a, b, c, imm % 256, imm / 256 % 256, imm / 65536 % 256, imm / 16777216]) (by simpa [u8s] using ho1) hg1
      have HS1 := Lib.hid hS1
      clear ho1 hg1 hS1 HS0 c0 c1 c2 c3 c4
      obtain ⟨A1, c1, rfl⟩ := row_form HS1.out.row
      go_wp2_with fail
      go_roundw
      case rel =>
        refine ⟨i + 1, by omega, by go_num, ?_, HS1.out.below⟩
        have e : encs (L.take (i + 1)) = encs (L.take i) ++ enc ⟨op, a, b, c, imm⟩ := by
          rw [List.take_add_one, encs_append, List.getElem?_eq_getElem (by rw [HN.out]; exact hgo), HX.out]
          rw [List.getD_eq_getElem?_getD, List.getElem?_eq_getElem (by rw [HN.out]; exact hgo)]
          simp [encs]
        have := HS1.out.row
        rw [e, ← HE.out, show 8 * (i + 1) = 8 * i + 8 from by omega]
        unfold enc
        rw [e3]
        exact this
      case measure => simp [RowKit.intOf]; omega
    · obtain rfl : i = n := by omega
      rw [List.take_of_length_le (by rw [HN.out]; exact Nat.le_refl _)] at hrow
      have HR := Lib.hid hrow
      have HB := Lib.hid hB
      clear hrow hB
      obtain ⟨A8, c8, rfl⟩ := row_form HR.out
      go_wp2
      go_ret
      exact ⟨_, rfl, HR.out, HB.out⟩
end Go.Proofs.YtlomgbackphmmaaDoor
