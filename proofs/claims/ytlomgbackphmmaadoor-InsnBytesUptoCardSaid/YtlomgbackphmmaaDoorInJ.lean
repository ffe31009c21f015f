/- The law InsnJoins. -/
import Derived.Test.YtlomgbackphmmaaDoorInAps
import Derived.Test.YtlomgbackphmmaaDoorInJ0
import Derived.Test.YtlomgbackphmmaaDoorInSm
import Derived.Test.YtlomgbackphmmaaDoorInPa
import Derived.Test.YtlomgbackphmmaaDoorInB
set_option linter.unusedVariables false
set_option linter.unusedSimpArgs false
namespace Go.Proofs.YtlomgbackphmmaaDoor
open Go.RowKit Go.Lib

theorem insn_z : ∃ i : TypeInfo, Tryd.prog.info? 24 = some i ∧ i.zero = some (.agg #[.int .u8 0, .int .u8 0, .int .u8 0, .int .u8 0, .int .u32 0]) ∧ i.size = 5 ∧ i.bytes = 8 := info_parts insn_info
theorem byte_z : ∃ i : TypeInfo, Tryd.prog.info? 5 = some i ∧ i.zero = some (.int .u8 0) ∧ i.size = 1 ∧ i.bytes = 1 := info_parts byte_info
/-- What comes of it: none of the first three, or both are read. -/
def JWay (e1 f1 g1 : Int) (n k : Nat) (R L : List Ins) : Prop := e1 ≠ 0 ∨ (e1 = 0 ∧ f1 ≠ 0) ∨ (e1 = 0 ∧ f1 = 0 ∧ 128 < n + k) ∨ (e1 = 0 ∧ f1 = 0 ∧ n + k ≤ 128 ∧ g1 = 0 ∧ R = L)
theorem jway (L M : List Ins) (hL : ∀ x ∈ L, x.Ok) (hM : ∀ x ∈ M, x.Ok) : JWay (prsE (encs L)) (prsE (encs M)) (prsE (encs L ++ encs M)) L.length M.length (prsL (encs L ++ encs M)) (L ++ M) := by
  unfold JWay
  by_cases h1 : prsE (encs L) = 0
  · by_cases h2 : prsE (encs M) = 0
    · by_cases h3 : L.length + M.length ≤ 128
      · obtain ⟨a, b⟩ := prs_join L M hL hM h1 h2 h3
        rw [encs_append] at a b
        exact .inr (.inr (.inr ⟨h1, h2, h3, a, b⟩))
      · exact .inr (.inr (.inl ⟨h1, h2, by omega⟩))
    · exact .inr (.inl ⟨h1, h2⟩)
  · exact .inl h1
theorem bytes_u8 (A : Option Addr) (c : Nat) (L : List Ins) (hl : L.length ≤ 1048576) (hok : ∀ x ∈ L, x.Ok) (w : World) (hP : Pr w A L) :
    Calls Tryd.prog 20 #[.slice A L.length c] w fun e w' => ∃ B c', e = .returned (.slice B (8 * L.length) c') ∧ w'.ownsRow w.heap.size 5 1 (.slice B (8 * L.length) c') (8 * L.length) (u8s (encs L)) ∧ 8 * L.length ≤ c' ∧ By w' B (encs L) ∧ Below w.heap.size w w' :=
  (Bytes_any A c L w hP (by omega)).mono fun e w' ⟨v, he, hr, hB⟩ => by
    obtain ⟨B, c', rfl, hc, hy⟩ := By.of_row hr (encs_length L).symm (encs_range L hok)
    exact ⟨B, c', he, hr, hc, hy, hB⟩
theorem parse_e (A : Option Addr) (c n : Nat) (l : List Int) (hn : n = l.length) (hc : n ≤ c) (hl : n ≤ 140737488355000) (w : World) (hP : By w A l) :
    Calls Tryd.prog 17 #[.slice A n c] w fun e w' => ∃ B c', e = .returned (.tuple #[.slice B (prsL l).length c', .int .i64 (prsE l)]) ∧ Pr w' B (prsL l) ∧ Below w.heap.size w w' := by
  subst hn
  refine (Parse_any A c l w hP hc hl).mono fun e w' ⟨v, he, hr, hB⟩ => ?_
  obtain ⟨B, c', rfl, hp⟩ := Pr.of_row hr rfl (fun x hx => by
    unfold prsL at hx
    by_cases h : prsE l = 0
    · rw [if_pos h] at hx
      obtain ⟨i, _, rfl⟩ := List.mem_map.1 hx
      exact hP.dec_ok i
    · rw [if_neg h] at hx; cases hx)
  exact ⟨B, c', he, hp, hB⟩

set_option maxRecDepth 100000 in
set_option maxHeartbeats 4000000 in
theorem InsnJoins_calls (A B : Option Addr) (ca cb : Nat) (L M : List Ins) (cut : Int) (hcut : 0 ≤ cut ∧ cut ≤ 255) (hl : L.length ≤ 1048576) (hm : M.length ≤ 1048576) (w : World) (hP : Pr w A L) (hQ : Pr w B M) (h : Ev w) :
    Calls Tryd.prog 8 #[.slice A L.length ca, .slice B M.length cb, .int .u8 cut] w fun e w' => e = .returned (.bool true) ∧ Below w.heap.size w w' := by
  obtain ⟨i0, hi, hz0, hz1, hz2⟩ := byte_z
  obtain ⟨i1, hi', hz0', hz1', hz2'⟩ := insn_z
  have H := Lib.hid h
  have HS := Lib.hid shown_calls
  have HP := Lib.hid hP
  have HQ := Lib.hid hQ
  have HBL := Lib.hid (fun w hP => bytes_u8 A ca L hl (by exact HP.out.ok) w hP)
  have HBM := Lib.hid (fun w hP => bytes_u8 B cb M hm (by exact HQ.out.ok) w hP)
  have HW := Lib.hid (jway L M hP.ok hQ.ok)
  have hnn : (encs L).length = 8 * L.length := encs_length L
  have hkk : (encs M).length = 8 * M.length := encs_length M
  have HPL := Lib.hid (fun A c w hc hP => parse_e A c (8 * L.length) (encs L) hnn.symm hc (by omega) w hP)
  have HPM := Lib.hid (fun A c w hc hP => parse_e A c (8 * M.length) (encs M) hkk.symm hc (by omega) w hP)
  have HPJ := Lib.hid (fun A c w hc hP => parse_e A c (8 * L.length + 8 * M.length) (encs L ++ encs M) (by rw [List.length_append, hnn, hkk]) hc (by omega) w hP)
  have HSM : Hid (∀ (A B : Option Addr) (c1 c2 : Nat) (w : World), Pr w A (L ++ M) → Pr w B (L ++ M) → Calls Tryd.prog 19 #[.slice A (L.length + M.length) c1, .slice B (L.length + M.length) c2] w fun e w' => e = .returned (.bool true) ∧ Below w.heap.size w w') :=
    Lib.hid (fun A B c1 c2 w hP hQ => by
      have := same_any A B c1 c2 (L ++ M) (L ++ M) w hP hQ (by rw [List.length_append]; omega)
      rw [decide_eq_true rfl, List.length_append] at this
      exact this)
  clear h hP hQ
  have HN0 : Hid (∀ x ∈ encs L ++ encs M, 0 ≤ x ∧ x ≤ 255) := Lib.hid (fun x hx => (List.mem_append.1 hx).elim (encs_range L HP.out.ok x) (encs_range M HQ.out.ok x))
  have HLN : Hid ((encs L ++ encs M).length = 8 * L.length + 8 * M.length) := Lib.hid (by rw [List.length_append, hnn, hkk])
  have HKK := Lib.hid hkk
  clear hnn hkk
  have HCUT : Hid (∀ (k c : Nat) (A : Option Addr) (w : World), k % 8 ≠ 0 → k ≤ 8 * L.length + 8 * M.length → 8 * L.length + 8 * M.length ≤ c → By w A (encs L ++ encs M) →
      Calls Tryd.prog 17 #[.slice A k c] w fun e w' => ∃ v, e = .returned (.tuple #[v, .int .i64 3]) ∧ Below w.heap.size w w') := Lib.hid (fun k c A w h1 h2 h3 hP => by
    have hk : ((encs L ++ encs M).take k).length = k := by rw [List.length_take, HLN.out]; omega
    have hp := parse_e A c k ((encs L ++ encs M).take k) hk.symm (by omega) (by omega) w (hP.take k)
    rw [prsE_cut _ (by rw [hk]; exact h1)] at hp
    exact hp.mono fun e w' h => by
      obtain ⟨B, c', he, _, hB⟩ := h
      exact ⟨_, he, hB⟩)
  have HFL : Hid (∀ (w : World) (P : Pr w A L), Src w A L.length 5 (flat L)) := Lib.hid (fun w P => Src.of_pr P)
  have HFM : Hid (∀ (w : World) (P : Pr w B M), Src w B M.length 5 (flat M)) := Lib.hid (fun w P => Src.of_pr P)
  generalize hnL : L.length = n at *
  generalize hnM : M.length = m at *
  have HNL := Lib.hid hnL
  have HNM := Lib.hid hnM
  clear hnL hnM
  generalize prsE (encs L) = e1 at *
  generalize prsE (encs M) = f1 at *
  generalize prsE (encs L ++ encs M) = g1 at *
  generalize prsL (encs L ++ encs M) = R at *
  go_enter Tryd.func8, Tryd.ntmps8
  go_wp2_with fail
  refine (HS.out _ H.out).mono ?_
  rintro e w1 ⟨rfl, hB1⟩
  have HB1 := Lib.hid hB1
  clear hB1
  go_wp2_with fail
  refine (HBL.out _ (HP.out.below HB1.out)).mono ?_
  rintro e w2 ⟨A2, c2, rfl, hr2, _, _, hB2⟩
  have hs12 := hB2.size
  have HR2 := Lib.hid (hr2)
  have HB2 := Lib.hid (HB1.out.trans (hB2.mono HB1.out.size))
  clear hB2 hr2
  go_wp2_with fail
  refine (HBM.out _ (HQ.out.below HB2.out)).mono ?_
  rintro e w3 ⟨A3, c3, rfl, _, _, hy3, hB3⟩
  have hs13 : w1.heap.size ≤ w3.heap.size := Nat.le_trans hs12 hB3.size
  have HR3 := Lib.hid (row_below HR2.out hB3)
  have HB3 := Lib.hid (HB2.out.trans (hB3.mono HB2.out.size))
  have hy3 := Src.of_by hy3
  rw [HKK.out] at hy3
  have HY3 := Lib.hid hy3
  clear hB3 HR2 hy3 HKK
  go_wp2_with (at_builtin; refine wpList_append_src rfl _ _ 41 rfl w1.heap.size 5 i0 (.int .u8 0) 1 1 Tryd.underlying41 hi hz0 hz1 hz2 rfl (by decide) _ _ _ rfl HR3.out A3 (8 * m) c3 (u8s (encs M)) rfl HY3.out ?c3 ?c4 ?c5 ?_)
  case c3 => unfold maxLen; omega
  case c4 => omega
  case c5 => exact hs13
  intro v4 w4 ho4 hg4
  rw [← u8s_append] at ho4
  have HB4 := Lib.hid (below_turn HB3.out hg4 HB1.out.size (fun r e => (HR3.out.lt r e).1))
  obtain ⟨B4, c4, rfl, hc4, hy4⟩ := By.of_row ho4 HLN.out.symm HN0.out
  have HY4 := Lib.hid hy4
  clear ho4 hg4 hy4 HR3 HY3 HB3 hs13 hs12 HB2 HB1 HN0
  go_wp2_with fail
  refine (HBL.out _ (HP.out.below HB4.out)).mono ?_
  rintro e w5 ⟨A5, c5, rfl, _, hc5, hy5, hB5⟩
  have HY5 := Lib.hid hy5
  have HZ5 := Lib.hid (HY4.out.below hB5)
  have HB5 := Lib.hid (HB4.out.trans (hB5.mono HB4.out.size))
  clear hy5 hB5 HY4 HB4
  go_wp2_with fail
  refine (HPL.out _ _ _ hc5 HY5.out).mono ?_
  rintro e w6 ⟨A6, c6, rfl, _, hB6⟩
  have HZ6 := Lib.hid (HZ5.out.below hB6)
  have HB6 := Lib.hid (HB5.out.trans (hB6.mono HB5.out.size))
  clear hB6 HZ5 HB5 HY5 hc5
  go_wp2_with fail
  refine (HBM.out _ (HQ.out.below HB6.out)).mono ?_
  rintro e w7 ⟨A7, c7, rfl, _, hc7, hy7, hB7⟩
  have HY7 := Lib.hid hy7
  have HZ7 := Lib.hid (HZ6.out.below hB7)
  have HB7 := Lib.hid (HB6.out.trans (hB7.mono HB6.out.size))
  clear hy7 hB7 HZ6 HB6
  go_wp2_with fail
  refine (HPM.out _ _ _ hc7 HY7.out).mono ?_
  rintro e w8 ⟨A8, c8, rfl, _, hB8⟩
  have HZ8 := Lib.hid (HZ7.out.below hB8)
  have HB8 := Lib.hid (HB7.out.trans (hB8.mono HB7.out.size))
  clear hB8 HZ7 HB7 HY7 hc7
  go_wp2_with fail
  refine (HPJ.out _ _ _ hc4 HZ8.out).mono ?_
  rintro e w9 ⟨A9, c9, rfl, hp9, hB9⟩
  have HZ9 := Lib.hid (HZ8.out.below hB9)
  have HB9 := Lib.hid (HB8.out.trans (hB9.mono HB8.out.size))
  have HP9 := Lib.hid hp9
  clear hB9 HZ8 HB8 hp9
  have htail : n + m = 0 ∨ (n + m ≠ 0 ∧ cut % 8 = 0) ∨ (n + m ≠ 0 ∧ cut % 8 ≠ 0) := by omega
  have hway := HW.out
  clear HW
  unfold JWay at hway
  rcases hway with h1 | ⟨rfl, h1⟩ | ⟨rfl, rfl, h1⟩ | ⟨rfl, rfl, h1, rfl, rfl⟩
  · have q1 : (e1 == 0) = false := beq_eq_false_iff_ne.2 h1
    clear h1
    rcases htail with h2 | ⟨h2, h3⟩ | ⟨h2, h3⟩
    · have q2 : ((8 * (n : Int) + 8 * (m : Int)) == 0) = true := beq_iff_eq.2 (by omega)
      clear h2
      go_wp2
      go_ret
      exact ⟨rfl, HB9.out⟩
    · have q2 : ((8 * (n : Int) + 8 * (m : Int)) == 0) = false := beq_eq_false_iff_ne.2 (by omega)
      have q3 : (cut % 8 == 0) = true := beq_iff_eq.2 h3
      clear h2 h3
      go_wp2
      go_ret
      exact ⟨rfl, HB9.out⟩
    · have q2 : ((8 * (n : Int) + 8 * (m : Int)) == 0) = false := beq_eq_false_iff_ne.2 (by omega)
      have q3 : (cut % 8 == 0) = false := beq_eq_false_iff_ne.2 h3
      have H3 := Lib.hid h3
      have q4 : 0 ≤ 8 * (n : Int) + 8 * (m : Int) - cut % 8 := by omega
      have q5 : 8 * (n : Int) + 8 * (m : Int) - cut % 8 ≤ (c4 : Int) := by omega
      clear h2 h3
      go_wp2_with fail
      refine (HCUT.out _ _ _ _ (by have := H3.out; omega) (by omega) hc4 HZ9.out).mono ?_
      rintro e w10 ⟨v10, rfl, hB10⟩
      have HB10 := Lib.hid (HB9.out.trans (hB10.mono HB9.out.size))
      clear hB10
      go_wp2
      go_ret
      exact ⟨rfl, HB10.out⟩
  · have q1 : (f1 == 0) = false := beq_eq_false_iff_ne.2 h1
    clear h1
    rcases htail with h2 | ⟨h2, h3⟩ | ⟨h2, h3⟩
    · have q2 : ((8 * (n : Int) + 8 * (m : Int)) == 0) = true := beq_iff_eq.2 (by omega)
      clear h2
      go_wp2
      go_ret
      exact ⟨rfl, HB9.out⟩
    · have q2 : ((8 * (n : Int) + 8 * (m : Int)) == 0) = false := beq_eq_false_iff_ne.2 (by omega)
      have q3 : (cut % 8 == 0) = true := beq_iff_eq.2 h3
      clear h2 h3
      go_wp2
      go_ret
      exact ⟨rfl, HB9.out⟩
    · have q2 : ((8 * (n : Int) + 8 * (m : Int)) == 0) = false := beq_eq_false_iff_ne.2 (by omega)
      have q3 : (cut % 8 == 0) = false := beq_eq_false_iff_ne.2 h3
      have H3 := Lib.hid h3
      have q4 : 0 ≤ 8 * (n : Int) + 8 * (m : Int) - cut % 8 := by omega
      have q5 : 8 * (n : Int) + 8 * (m : Int) - cut % 8 ≤ (c4 : Int) := by omega
      clear h2 h3
      go_wp2_with fail
      refine (HCUT.out _ _ _ _ (by have := H3.out; omega) (by omega) hc4 HZ9.out).mono ?_
      rintro e w10 ⟨v10, rfl, hB10⟩
      have HB10 := Lib.hid (HB9.out.trans (hB10.mono HB9.out.size))
      clear hB10
      go_wp2
      go_ret
      exact ⟨rfl, HB10.out⟩
  · have q1 : decide ((n : Int) + (m : Int) ≤ 128) = false := decide_eq_false (by omega)
    clear h1
    rcases htail with h2 | ⟨h2, h3⟩ | ⟨h2, h3⟩
    · have q2 : ((8 * (n : Int) + 8 * (m : Int)) == 0) = true := beq_iff_eq.2 (by omega)
      clear h2
      go_wp2
      go_ret
      exact ⟨rfl, HB9.out⟩
    · have q2 : ((8 * (n : Int) + 8 * (m : Int)) == 0) = false := beq_eq_false_iff_ne.2 (by omega)
      have q3 : (cut % 8 == 0) = true := beq_iff_eq.2 h3
      clear h2 h3
      go_wp2
      go_ret
      exact ⟨rfl, HB9.out⟩
    · have q2 : ((8 * (n : Int) + 8 * (m : Int)) == 0) = false := beq_eq_false_iff_ne.2 (by omega)
      have q3 : (cut % 8 == 0) = false := beq_eq_false_iff_ne.2 h3
      have H3 := Lib.hid h3
      have q4 : 0 ≤ 8 * (n : Int) + 8 * (m : Int) - cut % 8 := by omega
      have q5 : 8 * (n : Int) + 8 * (m : Int) - cut % 8 ≤ (c4 : Int) := by omega
      clear h2 h3
      go_wp2_with fail
      refine (HCUT.out _ _ _ _ (by have := H3.out; omega) (by omega) hc4 HZ9.out).mono ?_
      rintro e w10 ⟨v10, rfl, hB10⟩
      have HB10 := Lib.hid (HB9.out.trans (hB10.mono HB9.out.size))
      clear hB10
      go_wp2
      go_ret
      exact ⟨rfl, HB10.out⟩
  · have q1 : decide ((n : Int) + (m : Int) ≤ 128) = true := decide_eq_true (by omega)
    clear h1
    rw [List.length_append, HNL.out, HNM.out]
    go_wp2_with (at_builtin; refine wpList_append_srcG ?hg _ _ 40 rfl w9.heap.size 24 i1 (.agg #[.int .u8 0, .int .u8 0, .int .u8 0, .int .u8 0, .int .u32 0]) 5 8 Tryd.underlying40 hi' hz0' hz1' hz2' rfl (by decide) _ 0 [] rfl ?c0 A n ca (flat L) rfl ?c1 ?c3 ?c4 ?c5 ?_; (case hg => exact wanted_at 17 67 false rfl rfl rfl rfl))
    case c0 => exact lit_row w9 _ _
    case c1 => exact HFL.out _ (HP.out.below (HB9.out.alloc HB9.out.size _))
    case c3 => unfold maxLen; omega
    case c4 => omega
    case c5 => simp
    intro v10 w10 ho10 hg10
    have HL10 := Lib.hid (lit_below hg10)
    have HB10 := Lib.hid (HB9.out.trans (HL10.out.mono HB9.out.size))
    have HO10 := Lib.hid ho10
    clear ho10 hg10
    obtain ⟨A10, c10, rfl⟩ := row_form HO10.out
    go_wp2_with (at_builtin; refine wpList_append_srcG ?hg _ _ 40 rfl w9.heap.size 24 i1 (.agg #[.int .u8 0, .int .u8 0, .int .u8 0, .int .u8 0, .int .u32 0]) 5 8 Tryd.underlying40 hi' hz0' hz1' hz2' rfl (by decide) _ n (flat L) rfl HO10.out B m cb (flat M) rfl ?c1 ?c3 ?c4 ?c5 ?_; (case hg => exact wanted_at 17 67 false rfl rfl rfl rfl))
    case c1 => exact HFM.out _ (HQ.out.below HB10.out)
    case c3 => unfold maxLen; omega
    case c4 => omega
    case c5 => exact HL10.out.size
    intro v11 w11 ho11 hg11
    rw [← flat_append] at ho11
    have hL11 := below_turn HL10.out hg11 (Nat.le_refl _) (fun r e => (HO10.out.lt r e).1)
    have HB11 := Lib.hid (HB9.out.trans (hL11.mono HB9.out.size))
    have HZ11 := Lib.hid (HZ9.out.below hL11)
    have HP11 := Lib.hid (HP9.out.below hL11)
    obtain ⟨A11, c11, rfl, hq11⟩ := Pr.of_row ho11 (by rw [List.length_append, HNL.out, HNM.out]) (fun x hx => (List.mem_append.1 hx).elim (HP.out.ok x) (HQ.out.ok x))
    have HQ11 := Lib.hid hq11
    clear ho11 hg11 hL11 hq11 HZ9 HP9 HB9 HL10 HB10 HO10
    go_wp2_with fail
    refine (HSM.out _ _ _ _ _ HP11.out HQ11.out).mono ?_
    rintro e w12 ⟨rfl, hB12⟩
    have HZ9 := Lib.hid (HZ11.out.below hB12)
    have HB9 := Lib.hid (HB11.out.trans (hB12.mono HB11.out.size))
    clear hB12 HZ11 HB11 HP11 HQ11
    rcases htail with h2 | ⟨h2, h3⟩ | ⟨h2, h3⟩
    · have q2 : ((8 * (n : Int) + 8 * (m : Int)) == 0) = true := beq_iff_eq.2 (by omega)
      clear h2
      go_wp2
      go_ret
      exact ⟨rfl, HB9.out⟩
    · have q2 : ((8 * (n : Int) + 8 * (m : Int)) == 0) = false := beq_eq_false_iff_ne.2 (by omega)
      have q3 : (cut % 8 == 0) = true := beq_iff_eq.2 h3
      clear h2 h3
      go_wp2
      go_ret
      exact ⟨rfl, HB9.out⟩
    · have q2 : ((8 * (n : Int) + 8 * (m : Int)) == 0) = false := beq_eq_false_iff_ne.2 (by omega)
      have q3 : (cut % 8 == 0) = false := beq_eq_false_iff_ne.2 h3
      have H3 := Lib.hid h3
      have q4 : 0 ≤ 8 * (n : Int) + 8 * (m : Int) - cut % 8 := by omega
      have q5 : 8 * (n : Int) + 8 * (m : Int) - cut % 8 ≤ (c4 : Int) := by omega
      clear h2 h3
      go_wp2_with fail
      refine (HCUT.out _ _ _ _ (by have := H3.out; omega) (by omega) hc4 HZ9.out).mono ?_
      rintro e w13 ⟨v13, rfl, hB13⟩
      have HB13 := Lib.hid (HB9.out.trans (hB13.mono HB9.out.size))
      clear hB13
      go_wp2
      go_ret
      exact ⟨rfl, HB13.out⟩
theorem InsnJoins_row (A B : Option Addr) (len1 len2 ca cb : Nat) {f0 f1 f2 f3 f4 g0 g1 g2 g3 g4 : Nat → Int} (cut : Int) (w : World) (h0 : ColI w A len1 5 0 .u8 f0) (h1 : ColI w A len1 5 1 .u8 f1) (h2 : ColI w A len1 5 2 .u8 f2) (h3 : ColI w A len1 5 3 .u8 f3) (h4 : ColI w A len1 5 4 .u32 f4)
    (k0 : ColI w B len2 5 0 .u8 g0) (k1 : ColI w B len2 5 1 .u8 g1) (k2 : ColI w B len2 5 2 .u8 g2) (k3 : ColI w B len2 5 3 .u8 g3) (k4 : ColI w B len2 5 4 .u32 g4) (hcut : 0 ≤ cut ∧ cut ≤ 255) (hl : len1 ≤ 1048576) (hm : len2 ≤ 1048576) (h : Ev w) :
    Calls Tryd.prog 8 #[.slice A len1 ca, .slice B len2 cb, .int .u8 cut] w fun e w' => e = .returned (.bool true) ∧ Below w.heap.size w w' := by
  obtain ⟨L, rfl, hP⟩ := Pr.of_cols h0 h1 h2 h3 h4
  obtain ⟨M, rfl, hQ⟩ := Pr.of_cols k0 k1 k2 k3 k4
  exact InsnJoins_calls A B ca cb L M cut hcut hl hm w hP hQ h
end Go.Proofs.YtlomgbackphmmaaDoor
