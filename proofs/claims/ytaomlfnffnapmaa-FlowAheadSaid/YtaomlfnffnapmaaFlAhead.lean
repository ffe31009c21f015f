/- FlowAhead: a program that is well stays so with a plain instruction ahead of it. -/
import Derived.Test.YtaomlfnffnapmaaFlAP
set_option linter.unusedVariables false
set_option linter.unusedSimpArgs false
namespace Go.Proofs.Ytaomlfnffnapmaa
open Go.RowKit

theorem flat_length : ∀ L : List Ins, (flat L).length = L.length * 5
  | [] => rfl
  | x :: L => by
    have e : x.cells.toList.length = 5 := rfl
    show (x.cells.toList ++ flat L).length = (L.length + 1) * 5
    rw [List.length_append, flat_length L, e]
    omega
theorem flat_one : ∀ L : List Ins, ∀ u ∈ flat L, u.oneCell' = true
  | [], u, h => by cases h
  | x :: L, u, h => by
    rcases List.mem_append.1 (show u ∈ x.cells.toList ++ flat L from h) with h | h
    · simp at h
      rcases h with rfl | rfl | rfl | rfl | rfl <;> rfl
    · exact flat_one L u h
theorem flat_cells {w : World} {ad : Addr} {L : List Ins} (h : Pr w (some ad) L) : ∀ j u, (flat L)[j]? = some u → w.cell? (ad.add j) = some u := by
  intro j u hu
  have hj : j < (flat L).length := (List.getElem?_eq_some_iff.1 hu).1
  rw [flat_length] at hj
  have hi : j / 5 < L.length := by omega
  obtain ⟨ad', e, _, hc⟩ := h.at' (j / 5) hi
  obtain rfl : ad = ad' := by injection e
  have hr : j % 5 < (L.getD (j / 5) z0).cells.size := Nat.mod_lt _ (by decide)
  have hv := flat_at L (j / 5) (j % 5) _ hi (Array.getElem?_eq_getElem hr)
  have hjj : j / 5 * 5 + j % 5 = j := by omega
  rw [hjj, hu] at hv
  have := hc (j % 5) _ (Array.getElem?_eq_getElem hr)
  rw [hjj] at this
  rw [this, hv]

set_option maxRecDepth 100000 in
set_option maxHeartbeats 4000000 in
theorem FlowAhead_calls (A : Option Addr) (cap : Nat) (L : List Ins) (op a b c imm : Int) (w : World) (hP : Pr w A L) (hok : (⟨op, a, b, c, imm⟩ : Ins).Ok) :
    Calls Try.prog 8 #[.slice A L.length cap, .agg #[.int .u8 op, .int .u8 a, .int .u8 b, .int .u8 c, .int .u32 imm]] w fun e w' => e = .returned (.bool true) ∧ Kept w w' := by
  obtain ⟨i0, hi, hz0, hz1, hz2⟩ := info_parts insn_info
  have HP := Lib.hid hP
  have HOK := Lib.hid hok
  clear hP hok
  go_enter Try.func8, Try.ntmps8
  go_wp2_with fail
  refine (shown_calls _).mono ?_
  rintro e w1 ⟨rfl, K1⟩
  have hA : Below w.heap.size w (w.alloc (.cells #[.int .u8 op, .int .u8 a, .int .u8 b, .int .u8 c, .int .u32 imm] 37)) := (Below.refl _ w).alloc (Nat.le_refl _) _
  have hsz : w.heap.size + 1 = (w.alloc (.cells #[.int .u8 op, .int .u8 a, .int .u8 b, .int .u8 c, .int .u32 imm] 37)).heap.size := by simp
  have hB1 := K1.below
  rw [← hsz] at hB1
  have HB1 := Lib.hid hB1
  have HK1 := Lib.hid (Kept.then_ (w0 := w) ⟨hA⟩ K1.below)
  have hw1 : w.heap.size + 1 ≤ w1.heap.size := Nat.le_trans (Nat.le_of_eq hsz) K1.below.size
  have HW1 := Lib.hid hw1
  clear K1 hA hsz hB1 hw1
  go_wp2_with fail
  refine (Longest_any A cap L _ (HP.out.below HK1.out.below)).mono ?_
  rintro e w2 ⟨rfl, hB2⟩
  have hB12 := HB1.out.trans (hB2.mono HW1.out)
  have HB12 := Lib.hid hB12
  have HK2 := Lib.hid (HK1.out.then_ hB2)
  have HW2 := Lib.hid (Nat.le_trans HW1.out hB2.size)
  obtain ⟨p0, p1, p2, p3, p4⟩ := five (Nat.lt_succ_self _) hB12
  clear hB2 hB12
  by_cases hw : (fchk L).2 = 0
  · rw [lng_well hw]
    have hbd := lgN_bd L 0
    have hl := well_len hw
    have HWL := Lib.hid hw
    have HLG := Lib.hid (fun (h : Plain ⟨op, a, b, c, imm⟩) (hl : L.length < 128) => hd_lng h hw hl)
    generalize lgN L 0 = N0 at *
    clear hw
    by_cases h128 : (128 : Int) ≤ (L.length : Int)
    · go_wp2
      go_ret
      exact ⟨rfl, HK2.out⟩
    · have h128' : (L.length : Int) < 128 := by omega
      by_cases hop : op = 5 ∨ op = 6 ∨ op = 7 ∨ op = 15
      · rcases hop with rfl | rfl | rfl | rfl
        all_goals
          go_wp2
          go_ret
          exact ⟨rfl, HK2.out⟩
      · have n5 : op ≠ 5 := fun e => hop (.inl e)
        have n6 : op ≠ 6 := fun e => hop (.inr (.inl e))
        have n7 : op ≠ 7 := fun e => hop (.inr (.inr (.inl e)))
        have n15 : op ≠ 15 := fun e => hop (.inr (.inr (.inr e)))
        have N5 := Lib.hid n5
        have N6 := Lib.hid n6
        have N7 := Lib.hid n7
        have N15 := Lib.hid n15
        have p5 : (op == 5) = false := beq_eq_false_iff_ne.2 n5
        have p6 : (op == 6) = false := beq_eq_false_iff_ne.2 n6
        have p7 : (op == 7) = false := beq_eq_false_iff_ne.2 n7
        have p15 : (op == 15) = false := beq_eq_false_iff_ne.2 n15
        clear hop n5 n6 n7 n15 h128
        go_wp2_with fail
        refine (Check_any ⟨op, a, b, c, imm⟩ HOK.out _).mono ?_
        rintro e w3 ⟨rfl, hB3⟩
        have hB13 := HB12.out.trans (hB3.mono HW2.out)
        have HK3 := Lib.hid (HK2.out.then_ hB3)
        clear p0 p1 p2 p3 p4
        obtain ⟨p0, p1, p2, p3, p4⟩ := five (Nat.lt_succ_self _) hB13
        clear hB3 hB13
        generalize hcv : chk ⟨op, a, b, c, imm⟩ = cv at *
        by_cases hc0 : cv = 0
        · subst hc0
          have hPx : Plain ⟨op, a, b, c, imm⟩ := ⟨HOK.out, hcv, N5.out, N6.out, N7.out, N15.out⟩
          have HPx := Lib.hid hPx
          have hlg := HLG.out hPx (by omega)
          have HLg := Lib.hid hlg
          obtain ⟨ad, rfl, _, _⟩ := HP.out.at' 0 hl.1
          have hsz3 : w.heap.size ≤ w3.heap.size := HK3.out.below.size
          have hB4 : Below w.heap.size w (w3.alloc (.cells #[.int .u8 op, .int .u8 a, .int .u8 b, .int .u8 c, .int .u32 imm] 37)) := (HK3.out.then_ ((Below.refl _ _).alloc (Nat.le_refl _) _)).below
          have hP4 := HP.out.below hB4
          have HP4 := Lib.hid hP4
          have HB4 := Lib.hid hB4
          clear hcv hPx hlg hP4 hB4
          go_wp2_with (at_builtin; refine wpList_append_own _ rfl _ _ 22 rfl w.heap.size 37 i0 (.agg #[.int .u8 0, .int .u8 0, .int .u8 0, .int .u8 0, .int .u32 0]) 5 8 Try.underlying22 hi hz0 hz1 hz2 rfl (by decide) _ 1 _ rfl (World.ownsRow_lit w3 #[.int .u8 op, .int .u8 a, .int .u8 b, .int .u8 c, .int .u32 imm] 1 hsz3 (by decide) rfl) ad L.length cap (flat L) rfl (flat_length L) ?c1 ?c2 ?c3 ?c4 ?c5 ?_)
          case c1 => exact flat_cells HP4.out
          case c2 => exact flat_one L
          case c3 => unfold maxLen; omega
          case c4 => omega
          case c5 => simp; omega
          intro v' w5 hown5 hg5 _
          have hown5' : w5.ownsRow w.heap.size 37 5 v' (1 + L.length) (flat (⟨op, a, b, c, imm⟩ :: L)) := hown5
          have HK5 := Lib.hid (Kept.row (w0 := w) ⟨HB4.out⟩ hg5 (fun k hk => by
            have hk' : w3.heap.size = k := by simpa [Value.ownBlock] using hk
            omega))
          obtain ⟨A5, c5, rfl, hP5⟩ := Pr.of_row hown5' (by rw [List.length_cons]; omega) (fun x hx => by
            rcases List.mem_cons.1 hx with rfl | hx
            · exact HOK.out
            · exact HP.out.ok x hx)
          have HL := Lib.hid (fun (w : World) (hP : Pr w A5 (⟨op, a, b, c, imm⟩ :: L)) => Longest_any A5 c5 (⟨op, a, b, c, imm⟩ :: L) w hP)
          rw [HLg.out, show ((⟨op, a, b, c, imm⟩ : Ins) :: L).length = 1 + L.length from by rw [List.length_cons]; omega] at HL
          have HP5 := Lib.hid hP5
          clear hown5 hown5' hg5 hP5
          go_wp2_with fail
          refine (HL.out _ HP5.out).mono ?_
          rintro e w6 ⟨rfl, hB6⟩
          have HK6 := Lib.hid (HK5.out.then_ hB6)
          clear hB6
          go_wp2
          go_ret
          exact ⟨rfl, HK6.out⟩
        · have hcb : (cv != 0) = true := by rw [bne_iff_ne]; exact hc0
          clear hc0 hcv
          go_wp2
          go_ret
          exact ⟨rfl, HK3.out⟩
  · have hne : ((fchk L).2 != 0) = true := by rw [bne_iff_ne]; exact hw
    rw [lng_bad hw]
    clear hw
    go_wp2
    go_ret
    exact ⟨rfl, HK2.out⟩
theorem FlowAhead_row (A : Option Addr) (len cap : Nat) {f0 f1 f2 f3 f4 : Nat → Int} (op a b c imm : Int) (w : World) (h0 : ColI w A len 5 0 .u8 f0) (h1 : ColI w A len 5 1 .u8 f1) (h2 : ColI w A len 5 2 .u8 f2) (h3 : ColI w A len 5 3 .u8 f3) (h4 : ColI w A len 5 4 .u32 f4)
    (ho : 0 ≤ op ∧ op ≤ 255) (ha : 0 ≤ a ∧ a ≤ 255) (hb : 0 ≤ b ∧ b ≤ 255) (hc : 0 ≤ c ∧ c ≤ 255) (hi : 0 ≤ imm ∧ imm ≤ 4294967295) :
    Calls Try.prog 8 #[.slice A len cap, .agg #[.int .u8 op, .int .u8 a, .int .u8 b, .int .u8 c, .int .u32 imm]] w fun e w' => e = .returned (.bool true) ∧ Kept w w' := by
  obtain ⟨L, rfl, hP⟩ := Pr.of_cols h0 h1 h2 h3 h4
  exact FlowAhead_calls A cap L op a b c imm w hP ⟨ho, ha, hb, hc, hi⟩
end Go.Proofs.Ytaomlfnffnapmaa
