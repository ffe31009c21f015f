/- ChainOthers: what is done with one head's list changes no other one. -/
import Derived.Test.YtajbfjmbohkphaaChD
set_option linter.unusedVariables false
set_option linter.unusedSimpArgs false
namespace Go.Proofs.Ytajbfjmbohkphaa
open Go.RowKit

theorem head_still {n : Int} (h0 : 0 ≤ n) (h1 : n ≤ 255) (w : World) : Calls Try.prog 18 #[.int .u8 n] w fun e w'' => e = .returned (.int .i64 (hA n)) ∧ w'' = w :=
  (head_calls n h0 h1 w).mono fun _ _ ⟨h, e⟩ => ⟨h, e.symm⟩
theorem node_still {n : Int} (h0 : 0 ≤ n) (h1 : n ≤ 255) (w : World) : Calls Try.prog 12 #[.int .u8 n] w fun e w'' => e = .returned (.int .i64 (nA n)) ∧ w'' = w :=
  (node_calls n h0 h1 w).mono fun _ _ ⟨h, e⟩ => ⟨h, e.symm⟩

/-- Two rows of the same numbers. -/
theorem Same_true {A A' : Option Addr} {c c' b b' : Nat} {L : List Int} (w : World) (h : Ri w b A L) (h' : Ri w b' A' L) (hl : L.length ≤ 1000) :
    Calls Try.prog 26 #[.slice A L.length c, .slice A' L.length c'] w fun e w' => e = .returned (.bool true) ∧ Below w.heap.size w w' := by
  have H := Lib.hid h
  have H' := Lib.hid h'
  clear h h'
  generalize hn : L.length = n at *
  have HN := Lib.hid hn
  clear hn
  go_enter Try.func26, Try.ntmps26
  go_wp2
  go_loopw [5] (fun v wx => ∃ k : Nat, k ≤ n ∧ v = .int .i64 (k : Int) ∧ Below w.heap.size w wx) (fun v _ => n - (intOf v).toNat)
  case atStart => exact ⟨0, by omega, rfl, Below.refl _ _⟩
  case round =>
    obtain ⟨k, hk, rfl, hB⟩ := hrel
    have HB := Lib.hid hB
    clear hB
    by_cases hlt : k < n
    · obtain ⟨g, rfl, _, hc⟩ := (H.out.below HB.out).at_ k (by rw [HN.out]; exact hlt)
      obtain ⟨g', rfl, _, hc'⟩ := (H'.out.below HB.out).at_ k (by rw [HN.out]; exact hlt)
      generalize L.getD k 0 = x at *
      go_wp2_with fail
      go_quiet (fail)
      go_wp2
      go_roundw
      case rel => exact ⟨k + 1, by omega, by go_num, below_drewN HB.out _⟩
      case measure => simp [intOf]; omega
    · have hkk : (n : Int) ≤ (k : Int) := by omega
      go_wp2
      go_ret
      exact ⟨rfl, HB.out⟩

/-- A node is in h's list, or in none, or in another. -/
theorem three {W w : World} {p d : Nat} {ls : Int → List Int} (S : Cs W w p d ls) {h n : Int} (hh : isH h) (hn : isN n) :
    ∃ r16 r17 : Int, ∃ b1 b2 : Bool, (if n ∈ ls h then (0 : Int) else 8) = r16 ∧ (if ownr (remLs ls h n) n = 0 then (0 : Int) else 8) = r17 ∧ (ownr ls n == h) = b1 ∧ (ownr ls n == 0) = b2 ∧
      ((r16 = 0 ∧ r17 = 0 ∧ b1 = true) ∨ (r16 = 8 ∧ r17 = 0 ∧ b1 = false ∧ b2 = true) ∨ (r16 = 8 ∧ r17 = 8 ∧ b1 = false ∧ b2 = false)) := by
  refine ⟨_, _, _, _, rfl, rfl, rfl, rfl, ?_⟩
  obtain ⟨bs, G, O, A, R⟩ := S.ex
  have hown := R.own_iff (n := n) hh
  have hnd := R.nd h hh
  by_cases hm : n ∈ ls h
  · refine .inl ⟨if_pos hm, if_pos (ownr_zero.2 (fun h' hh' hm' => ?_)), by rw [hown.2 hm]; simp⟩
    unfold remLs at hm'
    by_cases e : h' = h
    · rw [updL_eq e] at hm'
      exact (List.Nodup.not_mem_erase hnd) hm'
    · rw [updL_ne e] at hm'
      exact e (R.one hh' hh hm' hm)
  · have hr : ownr (remLs ls h n) n = ownr ls n := by
      have : remLs ls h n = ls := funext (fun x => by
        unfold remLs
        rw [List.erase_of_not_mem hm]
        by_cases e : x = h
        · rw [updL_eq e, e]
        · rw [updL_ne e])
      rw [this]
    have hno : (ownr ls n == h) = false := beq_eq_false_iff_ne.2 (fun e => hm (hown.1 e))
    rw [hr]
    by_cases h0 : ownr ls n = 0
    · exact .inr (.inl ⟨if_neg hm, if_pos h0, hno, by rw [h0]; rfl⟩)
    · exact .inr (.inr ⟨if_neg hm, if_neg h0, hno, beq_eq_false_iff_ne.2 h0⟩)
theorem others_at {ls : Int → List Int} {h n h1 : Int} {f : Bool} (hne : h1 ≠ h) : pushLs (remLs ls h n) h n f h1 = ls h1 := by
  unfold pushLs
  split
  · rw [updL_ne hne]; exact updL_ne hne
  · exact updL_ne hne

set_option maxRecDepth 100000 in
set_option maxHeartbeats 4000000 in
theorem ChainOthers_calls (A : Option Addr) (len cap : Nat) (fk fh fn : Nat → Int) (xk xh xn : Int) (w : World) (hlen : len ≤ 9223372036854775807) (hD : Deeds w A len fk fh fn) (hxh : 0 ≤ xh ∧ xh ≤ 255) (hxn : 0 ≤ xn ∧ xn ≤ 255) (hxk : -9223372036854775808 ≤ xk ∧ xk ≤ 9223372036854775807) :
    Calls Try.prog 7 #[.slice A len cap, .agg #[.int .i64 xk, .int .u8 xh, .int .u8 xn]] w fun e w' => e = .returned (.bool true) ∧ Kept w w' := by
  obtain ⟨W1, hW1⟩ : ∃ W, W = w.alloc (.cells #[.int .i64 xk, .int .u8 xh, .int .u8 xn] 45) := ⟨_, rfl⟩
  have hB1 : Below w.heap.size w W1 := by rw [hW1]; exact (Below.refl _ _).alloc (Nat.le_refl _) _
  have HD := Lib.hid (hD.below hB1)
  have HB1 := Lib.hid hB1
  have hX : W1.heap[w.heap.size]? = some (.cells #[.int .i64 xk, .int .u8 xh, .int .u8 xn] 45) := by rw [hW1]; exact heap_alloc_new w _
  have HX := Lib.hid hX
  have HW1 := Lib.hid hW1
  clear hD hW1 hB1 hX
  go_enter Try.func7, Try.ntmps7
  go_wp2_with fail
  refine (shown_calls _).mono ?_
  rintro e w1 ⟨rfl, K1⟩
  rw [← HW1.out] at K1
  go_wp2_with fail
  refine (fresh_cs K1).mono ?_
  rintro e w2 ⟨p, d, rfl, S2⟩
  have HS2 := Lib.hid S2
  clear S2 K1
  go_wp2_with fail
  go_loopw [7] (fun v wr => ∃ (k : Nat) (ls : Int → List Int), k ≤ 60 ∧ v = .int .i64 (k : Int) ∧ Cs W1 wr p d ls) (fun v _ => 60 - (intOf v).toNat)
  case atStart => exact ⟨0, _, by omega, rfl, HS2.out⟩
  case round =>
    clear HS2
    obtain ⟨k, ls, hk, rfl, hS⟩ := hrel
    have HS := Lib.hid hS
    clear hS
    by_cases hlt : k < len ∧ k < 60
    · obtain ⟨hlt1, hlt2⟩ := hlt
      obtain ⟨ad, rfl, hck, hch, hcn, ⟨bh0, bh1⟩, ⟨bn0, bn1⟩, ⟨bk0, bk1⟩⟩ := (HD.out.below HS.out.kept.below).at_ k hlt1
      generalize fk k = K at *
      generalize fh k = H at *
      generalize fn k = n at *
      go_wp2_with fail
      go_still_tail 20, (by kernel_rfl)
      still_call (head_still bh0 bh1 _)
      repeat still_step
      still_call (node_still bn0 bn1 _)
      repeat still_step
      refine wpStill_nil ?_
      have HSd : Hid (Cs W1 wr.drew p d ls) := Lib.hid (HS.out.then_ ⟨rfl, rfl, rfl, Nat.le_refl _, fun _ _ => rfl⟩)
      change wpList _ _ _ _ _ wr.drew
      generalize wr.drew = wd at *
      go_wp2_with fail
      refine (Push_cs HSd.out (isH_hA H) (isN_nA n) _).mono ?_
      rintro e w4 ⟨rfl, S4, _⟩
      have HS4 := Lib.hid S4
      clear S4
      go_wp2
      go_roundw
      case rel => exact ⟨k + 1, _, by omega, by go_num, HS4.out⟩
      case measure => simp [intOf]; omega
    · have hno : ((len : Int) ≤ (k : Int)) ∨ ((k : Int) < (len : Int)) ∧ k = 60 := by omega
      clear hlt
      have HXc : Hid (∀ w', Kept W1 w' → w'.cell? ⟨w.heap.size, 0, none⟩ = some (.int .i64 xk) ∧ w'.cell? ⟨w.heap.size, 1, none⟩ = some (.int .u8 xh) ∧ w'.cell? ⟨w.heap.size, 2, none⟩ = some (.int .u8 xn)) := Lib.hid (fun w' K => by
        have hb : w'.heap[w.heap.size]? = _ := (K.below.block _ (by rw [HW1.out]; simp)).trans HX.out
        refine ⟨?_, ?_, ?_⟩
        · rw [cell_of_row w' w.heap.size 0 _ _ _ hb]; rfl
        · rw [cell_of_row w' w.heap.size 1 _ _ _ hb]; rfl
        · rw [cell_of_row w' w.heap.size 2 _ _ _ hb]; rfl)
      obtain ⟨xh0, xh1⟩ := hxh
      obtain ⟨xn0, xn1⟩ := hxn
      obtain ⟨xk0, xk1⟩ := hxk
      have hne1 : hA (xh % 3 + 1) ≠ hA xh := by unfold hA; omega
      have hne2 : hA (xh % 3 + 2) ≠ hA xh := by unfold hA; omega
      have NE1 := Lib.hid hne1
      have NE2 := Lib.hid hne2
      clear hne1 hne2
      rcases hno with hno | ⟨hno, rfl⟩
      all_goals
        obtain ⟨c0, c1, c2⟩ := HXc.out _ HS.out.kept
        go_wp2_with fail
        refine (head_calls xh xh0 xh1 _).mono ?_
        rintro e w4 ⟨rfl, rfl⟩
        go_wp2_with fail
        refine (node_calls xn xn0 xn1 _).mono ?_
        rintro e w4 ⟨rfl, rfl⟩
        go_wp2_with fail
        refine (Owner_cs HS.out (isN_nA xn)).mono ?_
        rintro e w5 ⟨rfl, S5, _⟩
        have HS5 := Lib.hid S5
        clear S5 c0 c1 c2
        obtain ⟨c0, c1, c2⟩ := HXc.out _ HS5.out.kept
        go_wp2_with fail
        refine (head_calls (xh % 3 + 1) (by omega) (by omega) _).mono ?_
        rintro e w6 ⟨rfl, rfl⟩
        go_wp2_with fail
        refine (All_cs HS5.out (isH_hA _)).mono ?_
        rintro e w6 ⟨v6, rfl, hr6, S6, _⟩
        obtain ⟨A6, c6, rfl, hR6⟩ := Ri.of_row hr6 rfl
        have hd6 := HS5.out.new.2.1
        have hl6 := HS5.out.len (isH_hA (xh % 3 + 1))
        have HS6 := Lib.hid S6
        have HR6 := Lib.hid hR6
        clear S6 hR6 hr6 c0 c1 c2
        obtain ⟨c0, c1, c2⟩ := HXc.out _ HS6.out.kept
        go_wp2_with fail
        refine (head_calls (xh % 3 + 2) (by omega) (by omega) _).mono ?_
        rintro e w7 ⟨rfl, rfl⟩
        go_wp2_with fail
        refine (All_cs HS6.out (isH_hA _)).mono ?_
        rintro e w7 ⟨v7, rfl, hr7, S7, hg7⟩
        obtain ⟨A7, c7, rfl, hR7⟩ := Ri.of_row hr7 rfl
        have hd7 := HS6.out.new.2.1
        have hl7 := HS6.out.len (isH_hA (xh % 3 + 2))
        have HS7 := Lib.hid S7
        have HR7 := Lib.hid hR7
        have HR67 := Lib.hid (HR6.out.grown hg7 hd6)
        clear S7 hR7 hr7 hg7 HR6 c0 c1 c2
        obtain ⟨r16, r17, b1, b2, e16, e17, eb1, eb2, hcase⟩ := three HS7.out (isH_hA xh) (isN_nA xn)
        have E16 := Lib.hid e16
        have E17 := Lib.hid e17
        clear e16 e17
        go_wp2_with fail
        refine (Remove_cs HS7.out (isH_hA xh) (isN_nA xn)).mono ?_
        rintro e w8 ⟨rfl, S8, hg8⟩
        rw [E16.out]
        have HS8 := Lib.hid S8
        have HR68 := Lib.hid (HR67.out.grown hg8 hd6)
        have HR78 := Lib.hid (HR7.out.grown hg8 hd7)
        clear S8 hg8 HR67 HR7
        obtain ⟨c0, c1, c2⟩ := HXc.out _ HS8.out.kept
        go_wp2_with fail
        refine (Push_cs HS8.out (isH_hA xh) (isN_nA xn) _).mono ?_
        rintro e w9 ⟨rfl, S9, hg9⟩
        rw [E17.out]
        have HS9 := Lib.hid S9
        have HR69 := Lib.hid (HR68.out.grown hg9 hd6)
        have HR79 := Lib.hid (HR78.out.grown hg9 hd7)
        clear S9 hg9 HR68 HR78 c0 c1 c2
        obtain ⟨c0, c1, c2⟩ := HXc.out _ HS9.out.kept
        go_wp2_with fail
        refine (head_calls (xh % 3 + 1) (by omega) (by omega) _).mono ?_
        rintro e w10 ⟨rfl, rfl⟩
        go_wp2_with fail
        refine (All_cs HS9.out (isH_hA _)).mono ?_
        rintro e w10 ⟨v10, rfl, hr10, S10, hg10⟩
        rw [others_at NE1.out] at hr10
        obtain ⟨A10, c10, rfl, hR10⟩ := Ri.of_row hr10 rfl
        have hd10 := HS9.out.new.2.1
        have HS10 := Lib.hid S10
        have HR10 := Lib.hid hR10
        have HR610 := Lib.hid (HR69.out.grown hg10 hd6)
        have HR710 := Lib.hid (HR79.out.grown hg10 hd7)
        clear S10 hR10 hr10 hg10 HR69 HR79 c0 c1 c2
        obtain ⟨c0, c1, c2⟩ := HXc.out _ HS10.out.kept
        go_wp2_with fail
        refine (head_calls (xh % 3 + 2) (by omega) (by omega) _).mono ?_
        rintro e w11 ⟨rfl, rfl⟩
        go_wp2_with fail
        refine (All_cs HS10.out (isH_hA _)).mono ?_
        rintro e w11 ⟨v11, rfl, hr11, S11, hg11⟩
        rw [others_at NE2.out] at hr11
        obtain ⟨A11, c11, rfl, hR11⟩ := Ri.of_row hr11 rfl
        have HS11 := Lib.hid S11
        have HR11 := Lib.hid hR11
        have HR611 := Lib.hid (HR610.out.grown hg11 hd6)
        have HR711 := Lib.hid (HR710.out.grown hg11 hd7)
        have HR1011 := Lib.hid (HR10.out.grown hg11 hd10)
        clear S11 hR11 hr11 hg11 HR610 HR710 HR10 c0 c1 c2
        rcases hcase with ⟨rfl, rfl, rfl⟩ | ⟨rfl, rfl, rfl, rfl⟩ | ⟨rfl, rfl, rfl, rfl⟩
        all_goals (
          go_wp2_with fail
          refine (Same_true w11 HR611.out HR1011.out (by omega)).mono ?_
          rintro e w12 ⟨rfl, hB12⟩
          have HB12 := Lib.hid hB12
          clear hB12
          go_wp2_with fail
          refine (Same_true w12 (HR711.out.below HB12.out) (HR11.out.below HB12.out) (by omega)).mono ?_
          rintro e w13 ⟨rfl, hB13⟩
          have hKf : Kept w w13 := ⟨(HB1.out).trans (((HS11.out.then_ HB12.out).then_ hB13).kept.below.mono HB1.out.size)⟩
          have HKf := Lib.hid hKf
          clear hKf hB13
          go_wp2
          go_ret
          exact ⟨rfl, HKf.out⟩)
end Go.Proofs.Ytajbfjmbohkphaa
