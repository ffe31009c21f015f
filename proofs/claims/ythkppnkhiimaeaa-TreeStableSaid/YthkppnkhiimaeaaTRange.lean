/- TreeRange: a root or a leaf that is not within is refused, and nothing changes. -/
import Derived.Test.YthkppnkhiimaeaaTlw
set_option linter.unusedVariables false
set_option linter.unusedSimpArgs false
namespace Go.Proofs.Ythkppnkhiimaeaa
open Go.RowKit

theorem ldv_zero {bs : List Int} (h : ∀ i, gb bs i = 0) (a : Nat) : ∀ k, ldv bs a k = 0
  | 0 => rfl
  | k + 1 => by
    show ldv bs a k + gb bs (a + k) * 256 ^ k = 0
    rw [ldv_zero h a k, h]; simp
/-- Words 0, bytes 0. -/
theorem bytes_zero {bs : List Int} (hl : bs.length = 2048) (hr : ∀ x ∈ bs, 0 ≤ x ∧ x ≤ 255) (h : ∀ a, al a → gt bs a = 0) (i : Nat) : gb bs i = 0 := by
  by_cases hi : i < 2048
  · have ha : al (4 * ((i / 4 : Nat) : Int)) := by unfold al; omega
    have h0 := h _ ha
    unfold gt ldA at h0
    rw [if_pos (nErr4 hl ha)] at h0
    have e : (4 * ((i / 4 : Nat) : Int)).toNat = 4 * (i / 4) := by omega
    rw [e] at h0
    have hb : ∀ j, j < 4 → 0 ≤ gb bs (4 * (i / 4) + j) := fun j hj => by
      have hlt : 4 * (i / 4) + j < bs.length := by omega
      have : gb bs (4 * (i / 4) + j) ∈ bs := by unfold gb; rw [List.getD_eq_getElem?_getD, List.getElem?_eq_getElem hlt]; exact List.getElem_mem hlt
      exact (hr _ this).1
    have b0 := hb 0 (by omega)
    have b1 := hb 1 (by omega)
    have b2 := hb 2 (by omega)
    have b3 := hb 3 (by omega)
    have hv : ldv bs (4 * (i / 4)) (Int.toNat 4) = gb bs (4 * (i / 4) + 0) * 256 ^ 0 + gb bs (4 * (i / 4) + 1) * 256 ^ 1 + gb bs (4 * (i / 4) + 2) * 256 ^ 2 + gb bs (4 * (i / 4) + 3) * 256 ^ 3 := by
      show ((((0 : Int) + gb bs (4 * (i / 4) + 0) * 256 ^ 0) + gb bs (4 * (i / 4) + 1) * 256 ^ 1) + gb bs (4 * (i / 4) + 2) * 256 ^ 2) + gb bs (4 * (i / 4) + 3) * 256 ^ 3 = _
      omega
    rw [hv, show (256 : Int) ^ 0 = 1 from rfl, show (256 : Int) ^ 1 = 256 from rfl, show (256 : Int) ^ 2 = 65536 from rfl, show (256 : Int) ^ 3 = 16777216 from rfl] at h0
    rcases (show i = 4 * (i / 4) + 0 ∨ i = 4 * (i / 4) + 1 ∨ i = 4 * (i / 4) + 2 ∨ i = 4 * (i / 4) + 3 by omega) with e | e | e | e <;> (rw [e]; omega)
  · unfold gb
    rw [List.getD_eq_getElem?_getD, List.getElem?_eq_none (by omega)]; rfl

/-- An arena of the call's own, 2048 bytes 0. -/
structure Zr (w0 w : World) (p d : Nat) : Prop where
  ex : ∃ bs, One w0 w p d bs ∧ bs.length = 2048 ∧ ∀ i, gb bs i = 0
def E8 (at_ : Int) : Int := if 1 ≤ at_ ∧ at_ ≤ 2040 then 0 else 4
def E24 (at_ : Int) : Int := if 1 ≤ at_ ∧ at_ ≤ 2024 then 0 else 4
section
variable {w0 w : World} {p d : Nat}
theorem Zr.kept (Z : Zr w0 w p d) : Kept w0 w := by obtain ⟨bs, h, _⟩ := Z.ex; exact h.kept
theorem inn8 {bs : List Int} (hl : bs.length = 2048) (at_ : Int) : inn bs at_ 8 = decide (E8 at_ = 0) := by
  unfold inn E8
  rw [hl]
  by_cases h1 : 1 ≤ at_ <;> by_cases h2 : at_ ≤ 2040 <;> simp [h1, h2] <;> omega
theorem inn24 {bs : List Int} (hl : bs.length = 2048) (at_ : Int) : inn bs at_ 24 = decide (E24 at_ = 0) := by
  unfold inn E24
  rw [hl]
  by_cases h1 : 1 ≤ at_ <;> by_cases h2 : at_ ≤ 2024 <;> simp [h1, h2] <;> omega
theorem E8_04 (a : Int) : E8 a = 0 ∨ E8 a = 4 := by unfold E8; split <;> simp
theorem E24_04 (a : Int) : E24 a = 0 ∨ E24 a = 4 := by unfold E24; split <;> simp
theorem gt_zero {bs : List Int} (h : ∀ i, gb bs i = 0) (a : Int) : gt bs a = 0 := by unfold gt ldA; split; exact ldv_zero h _ _; rfl
theorem rErrT_of {bs : List Int} (hl : bs.length = 2048) (a : Int) : rErrT bs a = E8 a := by
  unfold rErrT
  rw [inn8 hl]
  rcases E8_04 a with e | e <;> rw [e] <;> rfl
theorem nErrT_of {bs : List Int} (hl : bs.length = 2048) (a : Int) : nErrT bs a = E24 a := by
  unfold nErrT
  rw [inn24 hl]
  rcases E24_04 a with e | e <;> rw [e] <;> rfl
theorem Root_zr (Z : Zr w0 w p d) (r : Int) :
    Calls Try.prog 14 #[.pointer (some ⟨p, 0, none⟩), .int .i64 r] w fun e w' => ∃ x : Int, e = .returned (.tuple #[.int .i64 x, .int .i64 (E8 r)]) ∧ Zr w0 w' p d := by
  obtain ⟨bs, h1, hl, hz⟩ := Z.ex
  refine (Root_any r w h1.ar).mono ?_
  rintro e w' ⟨rfl, hA, hg⟩
  exact ⟨_, by rw [rErrT_of hl], ⟨bs, h1.grown hA hg, hl, hz⟩⟩
theorem First_zr (Z : Zr w0 w p d) (r : Int) :
    Calls Try.prog 21 #[.pointer (some ⟨p, 0, none⟩), .int .i64 r] w fun e w' => ∃ x : Int, e = .returned (.tuple #[.int .i64 x, .int .i64 (E8 r)]) ∧ Zr w0 w' p d := by
  obtain ⟨bs, h1, hl, hz⟩ := Z.ex
  refine (First_any r w h1.ar).mono ?_
  rintro e w' ⟨rfl, hA, hg⟩
  exact ⟨_, by rw [rErrT_of hl], ⟨bs, h1.grown hA hg, hl, hz⟩⟩
theorem Child_zr (Z : Zr w0 w p d) (n : Int) (right : Bool) :
    Calls Try.prog 30 #[.pointer (some ⟨p, 0, none⟩), .int .i64 n, .bool right] w fun e w' => ∃ x : Int, e = .returned (.tuple #[.int .i64 x, .int .i64 (E24 n)]) ∧ Zr w0 w' p d := by
  obtain ⟨bs, h1, hl, hz⟩ := Z.ex
  refine (Child_any n right w h1.ar).mono ?_
  rintro e w' ⟨rfl, hA, hg⟩
  exact ⟨_, by rw [nErrT_of hl], ⟨bs, h1.grown hA hg, hl, hz⟩⟩
theorem Owner_zr (Z : Zr w0 w p d) (n : Int) :
    Calls Try.prog 31 #[.pointer (some ⟨p, 0, none⟩), .int .i64 n] w fun e w' => ∃ x : Int, e = .returned (.tuple #[.int .i64 x, .int .i64 (E24 n)]) ∧ Zr w0 w' p d := by
  obtain ⟨bs, h1, hl, hz⟩ := Z.ex
  refine (Owner_any n w h1.ar).mono ?_
  rintro e w' ⟨rfl, hA, hg⟩
  exact ⟨_, by rw [nErrT_of hl], ⟨bs, h1.grown hA hg, hl, hz⟩⟩
theorem Red_zr (Z : Zr w0 w p d) (n : Int) :
    Calls Try.prog 19 #[.pointer (some ⟨p, 0, none⟩), .int .i64 n] w fun e w' => ∃ x : Bool, e = .returned (.tuple #[.bool x, .int .i64 (E24 n)]) ∧ Zr w0 w' p d := by
  obtain ⟨bs, h1, hl, hz⟩ := Z.ex
  refine (Red_any n w h1.ar).mono ?_
  rintro e w' ⟨rfl, hA, hg⟩
  exact ⟨_, by rw [nErrT_of hl], ⟨bs, h1.grown hA hg, hl, hz⟩⟩
theorem All_zr (Z : Zr w0 w p d) (r : Int) :
    Calls Try.prog 17 #[.pointer (some ⟨p, 0, none⟩), .int .i64 r] w fun e w' => ∃ A n c, e = .returned (.tuple #[.slice A n c, .int .i64 (E8 r)]) ∧ Zr w0 w' p d := by
  obtain ⟨bs, h1, hl, hz⟩ := Z.ex
  rcases E8_04 r with e | e
  · refine (All_any r 0 [] w h1.ar (by rw [inn8 hl, e]; rfl) ⟨gt_zero hz r, rfl⟩ (by omega) (by simp)).mono ?_
    rintro _ w' ⟨v, rfl, hr, hA, hg⟩
    obtain ⟨A, c, rfl⟩ := row_form hr
    exact ⟨_, _, _, by rw [e], ⟨bs, h1.grown hA hg, hl, hz⟩⟩
  · refine (All_far r w h1.ar (by rw [inn8 hl, e]; rfl)).mono ?_
    rintro _ w' ⟨rfl, hA, hg⟩
    exact ⟨_, _, _, by rw [e], ⟨bs, h1.grown hA hg, hl, hz⟩⟩
theorem Add_zr (Z : Zr w0 w p d) (r n dl : Int) (h : E8 r = 4 ∨ E24 n = 4) :
    Calls Try.prog 12 #[.pointer (some ⟨p, 0, none⟩), .int .i64 r, .int .i64 n, .int .i64 dl] w fun e w' => e = .returned (.int .i64 4) ∧ Zr w0 w' p d := by
  obtain ⟨bs, h1, hl, hz⟩ := Z.ex
  have hc : chk bs r n = 4 := by
    unfold chk
    rw [inn8 hl, inn24 hl]
    rcases h with e | e
    · rw [e]; rfl
    · rw [e, show decide ((4 : Int) = 0) = false from rfl, Bool.and_false]; rfl
  refine (Add_out n dl w h1.ar hc).mono ?_
  rintro e w' ⟨rfl, hA, hg⟩
  exact ⟨rfl, ⟨bs, h1.grown hA hg, hl, hz⟩⟩
theorem Add_zk (Z : Zr w0 w p d) (dl : Int) (h0 : -1000000 < dl) (h1 : dl < 1000000) (h : 64 + dl < 0 ∨ 2040 < 64 + dl) :
    Calls Try.prog 12 #[.pointer (some ⟨p, 0, none⟩), .int .i64 8, .int .i64 64, .int .i64 dl] w fun e w' => e = .returned (.int .i64 4) ∧ Zr w0 w' p d := by
  obtain ⟨bs, o1, hl, hz⟩ := Z.ex
  have hc : chk bs 8 64 = 0 := by unfold chk; rw [inn8 hl, inn24 hl]; rfl
  refine (Add_key 64 dl w o1.ar hc (by omega) (by omega) (nErr_far (by unfold WOk; omega) (by rw [hl]; omega))).mono ?_
  rintro e w' ⟨rfl, hA, hg⟩
  exact ⟨rfl, ⟨bs, o1.grown hA hg, hl, hz⟩⟩
theorem Remove_zr (Z : Zr w0 w p d) (r n : Int) (h : E8 r = 4 ∨ E24 n = 4) :
    Calls Try.prog 16 #[.pointer (some ⟨p, 0, none⟩), .int .i64 r, .int .i64 n] w fun e w' => e = .returned (.int .i64 4) ∧ Zr w0 w' p d := by
  obtain ⟨bs, h1, hl, hz⟩ := Z.ex
  have hc : chk bs r n = 4 := by
    unfold chk
    rw [inn8 hl, inn24 hl]
    rcases h with e | e
    · rw [e]; rfl
    · rw [e, show decide ((4 : Int) = 0) = false from rfl, Bool.and_false]; rfl
  refine (Remove_out n w h1.ar hc).mono ?_
  rintro e w' ⟨rfl, hA, hg⟩
  exact ⟨rfl, ⟨bs, h1.grown hA hg, hl, hz⟩⟩
theorem Bytes_zr (Z : Zr w0 w p d) :
    Calls Try.prog 29 #[.pointer (some ⟨p, 0, none⟩), .int .i64 0, .int .i64 2048] w fun e w' =>
      ∃ g, e = .returned (.tuple #[.slice (some ⟨g, 0, none⟩) 2048 2048, .int .i64 0]) ∧ (∀ i, i < 2048 → w'.cell? ⟨g, i, none⟩ = some (.int .u8 0)) ∧ Zr w0 w' p d := by
  obtain ⟨bs, h1, hl, hz⟩ := Z.ex
  have hr : rErr bs.length 0 2048 = 0 := rErr_ok (by omega) (by omega) (by omega)
  have hcut : cutA bs 0 2048 = bs := by
    unfold cutA
    rw [if_pos hr]
    unfold cutb
    rw [Int.toNat_zero, List.drop_zero, List.take_of_length_le (by rw [hl]; exact Nat.le_refl _)]
  refine (Bytes_st h1 0 2048 (by omega)).mono ?_
  rintro e w' ⟨g, rfl, hk, S⟩
  rw [hcut] at hk
  rw [hcut, hr, hl]
  exact ⟨g, rfl, fun i hi => by rw [hk.byte i (by omega), hz], ⟨bs, S, hl, hz⟩⟩
theorem fresh_zr (K : Kept w0 w) : Calls Try.prog 11 #[.slice none 0 0] w fun e w' => ∃ p d, e = .returned (.pointer (some ⟨p, 0, none⟩)) ∧ Zr w0 w' p d := by
  refine (fresh_fh K (f := fun _ => 0) ⟨fun i hi => by omega⟩ (by omega)).mono ?_
  rintro e w' ⟨p, d, kw, rfl, F, _, _⟩
  obtain ⟨bs, o, W⟩ := F.S.ex
  refine ⟨p, d, rfl, ⟨bs, o, W.1, bytes_zero W.1 o.ar.rng (fun a ha => ?_)⟩⟩
  rw [W.2 a ha]
  unfold wordOf hp0
  split
  · rfl
  · split
    · split <;> (try split) <;> (try split) <;> (try split) <;> rfl
    · exact F.kz a ha (fun n hn => by simp [lfs] at hn)
end

set_option maxRecDepth 100000 in
set_option maxHeartbeats 4000000 in
theorem range_a (at_ delta : Int) (right : Bool) (w : World) (b0 : -9223372036854775808 ≤ delta) (b1 : delta ≤ 9223372036854775807) (hat : at_ < 1) : Calls Try.prog 8 #[.int .i64 at_, .int .i64 delta, .bool right] w fun e w' => e = .returned (.bool true) ∧ Kept w w' := by
  have d1 : decide (at_ < (1 : Int)) = true := decide_eq_true (by omega)
  have H8 : Hid (E8 at_ = 4) := Lib.hid (by unfold E8; rw [if_neg (by omega)])
  have H24 : Hid (E24 at_ = 4) := Lib.hid (by unfold E24; rw [if_neg (by omega)])
  clear hat
  have hcase : delta ≤ -1000000 ∨ 1000000 ≤ delta ∨ (-1000000 < delta ∧ delta < 1000000 ∧ 64 + delta < 0) ∨ (-1000000 < delta ∧ delta < 1000000 ∧ 2040 < 64 + delta) ∨ (-1000000 < delta ∧ delta < 1000000 ∧ 0 ≤ 64 + delta ∧ 64 + delta ≤ 2040) := by omega
  go_enter Try.func8, Try.ntmps8
  go_wp2_with fail
  refine (shown_calls _).mono ?_
  rintro e w1 ⟨rfl, K1⟩
  go_wp2_with fail
  refine (fresh_zr K1).mono ?_
  rintro e w2 ⟨p, d, rfl, Z2⟩
  have HZ2 := Lib.hid Z2
  clear Z2 K1
  rcases hcase with hd | hd | ⟨hd1, hd2, hd3⟩ | ⟨hd1, hd2, hd3⟩ | ⟨hd1, hd2, hd3, hd4⟩
  · have e1 : decide ((-1000000 : Int) < delta) = false := decide_eq_false (by omega)
    go_wp2_with fail
    refine (Root_zr HZ2.out at_).mono ?_
    rintro e w3 ⟨x1, rfl, Z3⟩
    rw [H8.out]
    have HZ3 := Lib.hid Z3
    clear Z3
    go_wp2_with fail
    refine (Child_zr HZ3.out at_ right).mono ?_
    rintro e w4 ⟨x2, rfl, Z4⟩
    rw [H24.out]
    have HZ4 := Lib.hid Z4
    clear Z4
    go_wp2_with fail
    refine (Owner_zr HZ4.out at_).mono ?_
    rintro e w5 ⟨x3, rfl, Z5⟩
    rw [H24.out]
    have HZ5 := Lib.hid Z5
    clear Z5
    go_wp2_with fail
    refine (Red_zr HZ5.out at_).mono ?_
    rintro e w6 ⟨x4, rfl, Z6⟩
    rw [H24.out]
    have HZ6 := Lib.hid Z6
    clear Z6
    go_wp2_with fail
    refine (First_zr HZ6.out at_).mono ?_
    rintro e w7 ⟨x5, rfl, Z7⟩
    rw [H8.out]
    have HZ7 := Lib.hid Z7
    clear Z7
    go_wp2_with fail
    refine (All_zr HZ7.out at_).mono ?_
    rintro e w8 ⟨A6, n6, c6, rfl, Z8⟩
    rw [H8.out]
    have HZ8 := Lib.hid Z8
    clear Z8
    go_wp2_with fail
    refine (Add_zr HZ8.out 8 at_ 0 (.inr H24.out)).mono ?_
    rintro e w9 ⟨rfl, Z9⟩
    have HZ9 := Lib.hid Z9
    clear Z9
    go_wp2_with fail
    refine (Remove_zr HZ9.out 8 at_ (.inr H24.out)).mono ?_
    rintro e w10 ⟨rfl, Z10⟩
    have HZ10 := Lib.hid Z10
    clear Z10
    go_wp2_with fail
    refine (Add_zr HZ10.out at_ 64 (-8) (.inl H8.out)).mono ?_
    rintro e w11 ⟨rfl, Z11⟩
    have HZ11 := Lib.hid Z11
    clear Z11
    go_wp2_with fail
    refine (Remove_zr HZ11.out at_ 64 (.inl H8.out)).mono ?_
    rintro e w12 ⟨rfl, Z12⟩
    have HZ12 := Lib.hid Z12
    clear Z12
    go_wp2_with fail
    refine (Bytes_zr HZ12.out).mono ?_
    rintro e wb ⟨g, rfl, hb, Zb⟩
    have HB := Lib.hid hb
    have HZb := Lib.hid Zb
    clear hb Zb
    go_wp2
    go_loop [27] (fun i => ∃ k : Nat, k ≤ 2048 ∧ i = .int .i64 k) (fun i => 2048 - (intOf i).toNat)
    case atStart => exact ⟨0, by omega, rfl⟩
    case round =>
      obtain ⟨k, hk, rfl⟩ := hrel
      by_cases hlt : k < 2048
      · have hcell : wb.cell? ⟨g, k, none⟩ = some (.int .u8 0) := HB.out k hlt
        go_wp2
        go_round
        case rel => exact ⟨k + 1, by omega, by go_num⟩
        case measure => simp [intOf]; omega
      · have hkk : (2048 : Int) ≤ (k : Int) := by omega
        go_wp2
        go_ret
        exact ⟨rfl, HZb.out.kept⟩
  · have e1 : decide ((-1000000 : Int) < delta) = true := decide_eq_true (by omega)
    have e2 : decide (delta < (1000000 : Int)) = false := decide_eq_false (by omega)
    go_wp2_with fail
    refine (Root_zr HZ2.out at_).mono ?_
    rintro e w3 ⟨x1, rfl, Z3⟩
    rw [H8.out]
    have HZ3 := Lib.hid Z3
    clear Z3
    go_wp2_with fail
    refine (Child_zr HZ3.out at_ right).mono ?_
    rintro e w4 ⟨x2, rfl, Z4⟩
    rw [H24.out]
    have HZ4 := Lib.hid Z4
    clear Z4
    go_wp2_with fail
    refine (Owner_zr HZ4.out at_).mono ?_
    rintro e w5 ⟨x3, rfl, Z5⟩
    rw [H24.out]
    have HZ5 := Lib.hid Z5
    clear Z5
    go_wp2_with fail
    refine (Red_zr HZ5.out at_).mono ?_
    rintro e w6 ⟨x4, rfl, Z6⟩
    rw [H24.out]
    have HZ6 := Lib.hid Z6
    clear Z6
    go_wp2_with fail
    refine (First_zr HZ6.out at_).mono ?_
    rintro e w7 ⟨x5, rfl, Z7⟩
    rw [H8.out]
    have HZ7 := Lib.hid Z7
    clear Z7
    go_wp2_with fail
    refine (All_zr HZ7.out at_).mono ?_
    rintro e w8 ⟨A6, n6, c6, rfl, Z8⟩
    rw [H8.out]
    have HZ8 := Lib.hid Z8
    clear Z8
    go_wp2_with fail
    refine (Add_zr HZ8.out 8 at_ 0 (.inr H24.out)).mono ?_
    rintro e w9 ⟨rfl, Z9⟩
    have HZ9 := Lib.hid Z9
    clear Z9
    go_wp2_with fail
    refine (Remove_zr HZ9.out 8 at_ (.inr H24.out)).mono ?_
    rintro e w10 ⟨rfl, Z10⟩
    have HZ10 := Lib.hid Z10
    clear Z10
    go_wp2_with fail
    refine (Add_zr HZ10.out at_ 64 (-8) (.inl H8.out)).mono ?_
    rintro e w11 ⟨rfl, Z11⟩
    have HZ11 := Lib.hid Z11
    clear Z11
    go_wp2_with fail
    refine (Remove_zr HZ11.out at_ 64 (.inl H8.out)).mono ?_
    rintro e w12 ⟨rfl, Z12⟩
    have HZ12 := Lib.hid Z12
    clear Z12
    go_wp2_with fail
    refine (Bytes_zr HZ12.out).mono ?_
    rintro e wb ⟨g, rfl, hb, Zb⟩
    have HB := Lib.hid hb
    have HZb := Lib.hid Zb
    clear hb Zb
    go_wp2
    go_loop [27] (fun i => ∃ k : Nat, k ≤ 2048 ∧ i = .int .i64 k) (fun i => 2048 - (intOf i).toNat)
    case atStart => exact ⟨0, by omega, rfl⟩
    case round =>
      obtain ⟨k, hk, rfl⟩ := hrel
      by_cases hlt : k < 2048
      · have hcell : wb.cell? ⟨g, k, none⟩ = some (.int .u8 0) := HB.out k hlt
        go_wp2
        go_round
        case rel => exact ⟨k + 1, by omega, by go_num⟩
        case measure => simp [intOf]; omega
      · have hkk : (2048 : Int) ≤ (k : Int) := by omega
        go_wp2
        go_ret
        exact ⟨rfl, HZb.out.kept⟩
  · have e1 : decide ((-1000000 : Int) < delta) = true := decide_eq_true (by omega)
    have e2 : decide (delta < (1000000 : Int)) = true := decide_eq_true (by omega)
    have e3 : decide (64 + delta < (0 : Int)) = true := decide_eq_true (by omega)
    go_wp2_with fail
    refine (Root_zr HZ2.out at_).mono ?_
    rintro e w3 ⟨x1, rfl, Z3⟩
    rw [H8.out]
    have HZ3 := Lib.hid Z3
    clear Z3
    go_wp2_with fail
    refine (Child_zr HZ3.out at_ right).mono ?_
    rintro e w4 ⟨x2, rfl, Z4⟩
    rw [H24.out]
    have HZ4 := Lib.hid Z4
    clear Z4
    go_wp2_with fail
    refine (Owner_zr HZ4.out at_).mono ?_
    rintro e w5 ⟨x3, rfl, Z5⟩
    rw [H24.out]
    have HZ5 := Lib.hid Z5
    clear Z5
    go_wp2_with fail
    refine (Red_zr HZ5.out at_).mono ?_
    rintro e w6 ⟨x4, rfl, Z6⟩
    rw [H24.out]
    have HZ6 := Lib.hid Z6
    clear Z6
    go_wp2_with fail
    refine (First_zr HZ6.out at_).mono ?_
    rintro e w7 ⟨x5, rfl, Z7⟩
    rw [H8.out]
    have HZ7 := Lib.hid Z7
    clear Z7
    go_wp2_with fail
    refine (All_zr HZ7.out at_).mono ?_
    rintro e w8 ⟨A6, n6, c6, rfl, Z8⟩
    rw [H8.out]
    have HZ8 := Lib.hid Z8
    clear Z8
    go_wp2_with fail
    refine (Add_zr HZ8.out 8 at_ 0 (.inr H24.out)).mono ?_
    rintro e w9 ⟨rfl, Z9⟩
    have HZ9 := Lib.hid Z9
    clear Z9
    go_wp2_with fail
    refine (Remove_zr HZ9.out 8 at_ (.inr H24.out)).mono ?_
    rintro e w10 ⟨rfl, Z10⟩
    have HZ10 := Lib.hid Z10
    clear Z10
    go_wp2_with fail
    refine (Add_zk HZ10.out delta (by omega) (by omega) (by omega)).mono ?_
    rintro e w11 ⟨rfl, Z11⟩
    have HZ11 := Lib.hid Z11
    clear Z11
    go_wp2_with fail
    refine (Add_zr HZ11.out at_ 64 (-8) (.inl H8.out)).mono ?_
    rintro e w12 ⟨rfl, Z12⟩
    have HZ12 := Lib.hid Z12
    clear Z12
    go_wp2_with fail
    refine (Remove_zr HZ12.out at_ 64 (.inl H8.out)).mono ?_
    rintro e w13 ⟨rfl, Z13⟩
    have HZ13 := Lib.hid Z13
    clear Z13
    go_wp2_with fail
    refine (Bytes_zr HZ13.out).mono ?_
    rintro e wb ⟨g, rfl, hb, Zb⟩
    have HB := Lib.hid hb
    have HZb := Lib.hid Zb
    clear hb Zb
    go_wp2
    go_loop [27] (fun i => ∃ k : Nat, k ≤ 2048 ∧ i = .int .i64 k) (fun i => 2048 - (intOf i).toNat)
    case atStart => exact ⟨0, by omega, rfl⟩
    case round =>
      obtain ⟨k, hk, rfl⟩ := hrel
      by_cases hlt : k < 2048
      · have hcell : wb.cell? ⟨g, k, none⟩ = some (.int .u8 0) := HB.out k hlt
        go_wp2
        go_round
        case rel => exact ⟨k + 1, by omega, by go_num⟩
        case measure => simp [intOf]; omega
      · have hkk : (2048 : Int) ≤ (k : Int) := by omega
        go_wp2
        go_ret
        exact ⟨rfl, HZb.out.kept⟩
  · have e1 : decide ((-1000000 : Int) < delta) = true := decide_eq_true (by omega)
    have e2 : decide (delta < (1000000 : Int)) = true := decide_eq_true (by omega)
    have e3 : decide (64 + delta < (0 : Int)) = false := decide_eq_false (by omega)
    have e4 : decide ((2040 : Int) < 64 + delta) = true := decide_eq_true (by omega)
    go_wp2_with fail
    refine (Root_zr HZ2.out at_).mono ?_
    rintro e w3 ⟨x1, rfl, Z3⟩
    rw [H8.out]
    have HZ3 := Lib.hid Z3
    clear Z3
    go_wp2_with fail
    refine (Child_zr HZ3.out at_ right).mono ?_
    rintro e w4 ⟨x2, rfl, Z4⟩
    rw [H24.out]
    have HZ4 := Lib.hid Z4
    clear Z4
    go_wp2_with fail
    refine (Owner_zr HZ4.out at_).mono ?_
    rintro e w5 ⟨x3, rfl, Z5⟩
    rw [H24.out]
    have HZ5 := Lib.hid Z5
    clear Z5
    go_wp2_with fail
    refine (Red_zr HZ5.out at_).mono ?_
    rintro e w6 ⟨x4, rfl, Z6⟩
    rw [H24.out]
    have HZ6 := Lib.hid Z6
    clear Z6
    go_wp2_with fail
    refine (First_zr HZ6.out at_).mono ?_
    rintro e w7 ⟨x5, rfl, Z7⟩
    rw [H8.out]
    have HZ7 := Lib.hid Z7
    clear Z7
    go_wp2_with fail
    refine (All_zr HZ7.out at_).mono ?_
    rintro e w8 ⟨A6, n6, c6, rfl, Z8⟩
    rw [H8.out]
    have HZ8 := Lib.hid Z8
    clear Z8
    go_wp2_with fail
    refine (Add_zr HZ8.out 8 at_ 0 (.inr H24.out)).mono ?_
    rintro e w9 ⟨rfl, Z9⟩
    have HZ9 := Lib.hid Z9
    clear Z9
    go_wp2_with fail
    refine (Remove_zr HZ9.out 8 at_ (.inr H24.out)).mono ?_
    rintro e w10 ⟨rfl, Z10⟩
    have HZ10 := Lib.hid Z10
    clear Z10
    go_wp2_with fail
    refine (Add_zk HZ10.out delta (by omega) (by omega) (by omega)).mono ?_
    rintro e w11 ⟨rfl, Z11⟩
    have HZ11 := Lib.hid Z11
    clear Z11
    go_wp2_with fail
    refine (Add_zr HZ11.out at_ 64 (-8) (.inl H8.out)).mono ?_
    rintro e w12 ⟨rfl, Z12⟩
    have HZ12 := Lib.hid Z12
    clear Z12
    go_wp2_with fail
    refine (Remove_zr HZ12.out at_ 64 (.inl H8.out)).mono ?_
    rintro e w13 ⟨rfl, Z13⟩
    have HZ13 := Lib.hid Z13
    clear Z13
    go_wp2_with fail
    refine (Bytes_zr HZ13.out).mono ?_
    rintro e wb ⟨g, rfl, hb, Zb⟩
    have HB := Lib.hid hb
    have HZb := Lib.hid Zb
    clear hb Zb
    go_wp2
    go_loop [27] (fun i => ∃ k : Nat, k ≤ 2048 ∧ i = .int .i64 k) (fun i => 2048 - (intOf i).toNat)
    case atStart => exact ⟨0, by omega, rfl⟩
    case round =>
      obtain ⟨k, hk, rfl⟩ := hrel
      by_cases hlt : k < 2048
      · have hcell : wb.cell? ⟨g, k, none⟩ = some (.int .u8 0) := HB.out k hlt
        go_wp2
        go_round
        case rel => exact ⟨k + 1, by omega, by go_num⟩
        case measure => simp [intOf]; omega
      · have hkk : (2048 : Int) ≤ (k : Int) := by omega
        go_wp2
        go_ret
        exact ⟨rfl, HZb.out.kept⟩
  · have e1 : decide ((-1000000 : Int) < delta) = true := decide_eq_true (by omega)
    have e2 : decide (delta < (1000000 : Int)) = true := decide_eq_true (by omega)
    have e3 : decide (64 + delta < (0 : Int)) = false := decide_eq_false (by omega)
    have e4 : decide ((2040 : Int) < 64 + delta) = false := decide_eq_false (by omega)
    go_wp2_with fail
    refine (Root_zr HZ2.out at_).mono ?_
    rintro e w3 ⟨x1, rfl, Z3⟩
    rw [H8.out]
    have HZ3 := Lib.hid Z3
    clear Z3
    go_wp2_with fail
    refine (Child_zr HZ3.out at_ right).mono ?_
    rintro e w4 ⟨x2, rfl, Z4⟩
    rw [H24.out]
    have HZ4 := Lib.hid Z4
    clear Z4
    go_wp2_with fail
    refine (Owner_zr HZ4.out at_).mono ?_
    rintro e w5 ⟨x3, rfl, Z5⟩
    rw [H24.out]
    have HZ5 := Lib.hid Z5
    clear Z5
    go_wp2_with fail
    refine (Red_zr HZ5.out at_).mono ?_
    rintro e w6 ⟨x4, rfl, Z6⟩
    rw [H24.out]
    have HZ6 := Lib.hid Z6
    clear Z6
    go_wp2_with fail
    refine (First_zr HZ6.out at_).mono ?_
    rintro e w7 ⟨x5, rfl, Z7⟩
    rw [H8.out]
    have HZ7 := Lib.hid Z7
    clear Z7
    go_wp2_with fail
    refine (All_zr HZ7.out at_).mono ?_
    rintro e w8 ⟨A6, n6, c6, rfl, Z8⟩
    rw [H8.out]
    have HZ8 := Lib.hid Z8
    clear Z8
    go_wp2_with fail
    refine (Add_zr HZ8.out 8 at_ 0 (.inr H24.out)).mono ?_
    rintro e w9 ⟨rfl, Z9⟩
    have HZ9 := Lib.hid Z9
    clear Z9
    go_wp2_with fail
    refine (Remove_zr HZ9.out 8 at_ (.inr H24.out)).mono ?_
    rintro e w10 ⟨rfl, Z10⟩
    have HZ10 := Lib.hid Z10
    clear Z10
    go_wp2_with fail
    refine (Add_zr HZ10.out at_ 64 (-8) (.inl H8.out)).mono ?_
    rintro e w11 ⟨rfl, Z11⟩
    have HZ11 := Lib.hid Z11
    clear Z11
    go_wp2_with fail
    refine (Remove_zr HZ11.out at_ 64 (.inl H8.out)).mono ?_
    rintro e w12 ⟨rfl, Z12⟩
    have HZ12 := Lib.hid Z12
    clear Z12
    go_wp2_with fail
    refine (Bytes_zr HZ12.out).mono ?_
    rintro e wb ⟨g, rfl, hb, Zb⟩
    have HB := Lib.hid hb
    have HZb := Lib.hid Zb
    clear hb Zb
    go_wp2
    go_loop [27] (fun i => ∃ k : Nat, k ≤ 2048 ∧ i = .int .i64 k) (fun i => 2048 - (intOf i).toNat)
    case atStart => exact ⟨0, by omega, rfl⟩
    case round =>
      obtain ⟨k, hk, rfl⟩ := hrel
      by_cases hlt : k < 2048
      · have hcell : wb.cell? ⟨g, k, none⟩ = some (.int .u8 0) := HB.out k hlt
        go_wp2
        go_round
        case rel => exact ⟨k + 1, by omega, by go_num⟩
        case measure => simp [intOf]; omega
      · have hkk : (2048 : Int) ≤ (k : Int) := by omega
        go_wp2
        go_ret
        exact ⟨rfl, HZb.out.kept⟩
set_option maxRecDepth 100000 in
set_option maxHeartbeats 4000000 in
theorem range_b (at_ delta : Int) (right : Bool) (w : World) (b0 : -9223372036854775808 ≤ delta) (b1 : delta ≤ 9223372036854775807) (hat : 2040 < at_) : Calls Try.prog 8 #[.int .i64 at_, .int .i64 delta, .bool right] w fun e w' => e = .returned (.bool true) ∧ Kept w w' := by
  have d1 : decide (at_ < (1 : Int)) = false := decide_eq_false (by omega)
  have d2 : decide ((2040 : Int) < at_) = true := decide_eq_true (by omega)
  have d3 : decide ((2024 : Int) < at_) = true := decide_eq_true (by omega)
  have H8 : Hid (E8 at_ = 4) := Lib.hid (by unfold E8; rw [if_neg (by omega)])
  have H24 : Hid (E24 at_ = 4) := Lib.hid (by unfold E24; rw [if_neg (by omega)])
  clear hat
  have hcase : delta ≤ -1000000 ∨ 1000000 ≤ delta ∨ (-1000000 < delta ∧ delta < 1000000 ∧ 64 + delta < 0) ∨ (-1000000 < delta ∧ delta < 1000000 ∧ 2040 < 64 + delta) ∨ (-1000000 < delta ∧ delta < 1000000 ∧ 0 ≤ 64 + delta ∧ 64 + delta ≤ 2040) := by omega
  go_enter Try.func8, Try.ntmps8
  go_wp2_with fail
  refine (shown_calls _).mono ?_
  rintro e w1 ⟨rfl, K1⟩
  go_wp2_with fail
  refine (fresh_zr K1).mono ?_
  rintro e w2 ⟨p, d, rfl, Z2⟩
  have HZ2 := Lib.hid Z2
  clear Z2 K1
  rcases hcase with hd | hd | ⟨hd1, hd2, hd3⟩ | ⟨hd1, hd2, hd3⟩ | ⟨hd1, hd2, hd3, hd4⟩
  · have e1 : decide ((-1000000 : Int) < delta) = false := decide_eq_false (by omega)
    go_wp2_with fail
    refine (Root_zr HZ2.out at_).mono ?_
    rintro e w3 ⟨x1, rfl, Z3⟩
    rw [H8.out]
    have HZ3 := Lib.hid Z3
    clear Z3
    go_wp2_with fail
    refine (Child_zr HZ3.out at_ right).mono ?_
    rintro e w4 ⟨x2, rfl, Z4⟩
    rw [H24.out]
    have HZ4 := Lib.hid Z4
    clear Z4
    go_wp2_with fail
    refine (Owner_zr HZ4.out at_).mono ?_
    rintro e w5 ⟨x3, rfl, Z5⟩
    rw [H24.out]
    have HZ5 := Lib.hid Z5
    clear Z5
    go_wp2_with fail
    refine (Red_zr HZ5.out at_).mono ?_
    rintro e w6 ⟨x4, rfl, Z6⟩
    rw [H24.out]
    have HZ6 := Lib.hid Z6
    clear Z6
    go_wp2_with fail
    refine (First_zr HZ6.out at_).mono ?_
    rintro e w7 ⟨x5, rfl, Z7⟩
    rw [H8.out]
    have HZ7 := Lib.hid Z7
    clear Z7
    go_wp2_with fail
    refine (All_zr HZ7.out at_).mono ?_
    rintro e w8 ⟨A6, n6, c6, rfl, Z8⟩
    rw [H8.out]
    have HZ8 := Lib.hid Z8
    clear Z8
    go_wp2_with fail
    refine (Add_zr HZ8.out 8 at_ 0 (.inr H24.out)).mono ?_
    rintro e w9 ⟨rfl, Z9⟩
    have HZ9 := Lib.hid Z9
    clear Z9
    go_wp2_with fail
    refine (Remove_zr HZ9.out 8 at_ (.inr H24.out)).mono ?_
    rintro e w10 ⟨rfl, Z10⟩
    have HZ10 := Lib.hid Z10
    clear Z10
    go_wp2_with fail
    refine (Add_zr HZ10.out at_ 64 (-8) (.inl H8.out)).mono ?_
    rintro e w11 ⟨rfl, Z11⟩
    have HZ11 := Lib.hid Z11
    clear Z11
    go_wp2_with fail
    refine (Remove_zr HZ11.out at_ 64 (.inl H8.out)).mono ?_
    rintro e w12 ⟨rfl, Z12⟩
    have HZ12 := Lib.hid Z12
    clear Z12
    go_wp2_with fail
    refine (Bytes_zr HZ12.out).mono ?_
    rintro e wb ⟨g, rfl, hb, Zb⟩
    have HB := Lib.hid hb
    have HZb := Lib.hid Zb
    clear hb Zb
    go_wp2
    go_loop [27] (fun i => ∃ k : Nat, k ≤ 2048 ∧ i = .int .i64 k) (fun i => 2048 - (intOf i).toNat)
    case atStart => exact ⟨0, by omega, rfl⟩
    case round =>
      obtain ⟨k, hk, rfl⟩ := hrel
      by_cases hlt : k < 2048
      · have hcell : wb.cell? ⟨g, k, none⟩ = some (.int .u8 0) := HB.out k hlt
        go_wp2
        go_round
        case rel => exact ⟨k + 1, by omega, by go_num⟩
        case measure => simp [intOf]; omega
      · have hkk : (2048 : Int) ≤ (k : Int) := by omega
        go_wp2
        go_ret
        exact ⟨rfl, HZb.out.kept⟩
  · have e1 : decide ((-1000000 : Int) < delta) = true := decide_eq_true (by omega)
    have e2 : decide (delta < (1000000 : Int)) = false := decide_eq_false (by omega)
    go_wp2_with fail
    refine (Root_zr HZ2.out at_).mono ?_
    rintro e w3 ⟨x1, rfl, Z3⟩
    rw [H8.out]
    have HZ3 := Lib.hid Z3
    clear Z3
    go_wp2_with fail
    refine (Child_zr HZ3.out at_ right).mono ?_
    rintro e w4 ⟨x2, rfl, Z4⟩
    rw [H24.out]
    have HZ4 := Lib.hid Z4
    clear Z4
    go_wp2_with fail
    refine (Owner_zr HZ4.out at_).mono ?_
    rintro e w5 ⟨x3, rfl, Z5⟩
    rw [H24.out]
    have HZ5 := Lib.hid Z5
    clear Z5
    go_wp2_with fail
    refine (Red_zr HZ5.out at_).mono ?_
    rintro e w6 ⟨x4, rfl, Z6⟩
    rw [H24.out]
    have HZ6 := Lib.hid Z6
    clear Z6
    go_wp2_with fail
    refine (First_zr HZ6.out at_).mono ?_
    rintro e w7 ⟨x5, rfl, Z7⟩
    rw [H8.out]
    have HZ7 := Lib.hid Z7
    clear Z7
    go_wp2_with fail
    refine (All_zr HZ7.out at_).mono ?_
    rintro e w8 ⟨A6, n6, c6, rfl, Z8⟩
    rw [H8.out]
    have HZ8 := Lib.hid Z8
    clear Z8
    go_wp2_with fail
    refine (Add_zr HZ8.out 8 at_ 0 (.inr H24.out)).mono ?_
    rintro e w9 ⟨rfl, Z9⟩
    have HZ9 := Lib.hid Z9
    clear Z9
    go_wp2_with fail
    refine (Remove_zr HZ9.out 8 at_ (.inr H24.out)).mono ?_
    rintro e w10 ⟨rfl, Z10⟩
    have HZ10 := Lib.hid Z10
    clear Z10
    go_wp2_with fail
    refine (Add_zr HZ10.out at_ 64 (-8) (.inl H8.out)).mono ?_
    rintro e w11 ⟨rfl, Z11⟩
    have HZ11 := Lib.hid Z11
    clear Z11
    go_wp2_with fail
    refine (Remove_zr HZ11.out at_ 64 (.inl H8.out)).mono ?_
    rintro e w12 ⟨rfl, Z12⟩
    have HZ12 := Lib.hid Z12
    clear Z12
    go_wp2_with fail
    refine (Bytes_zr HZ12.out).mono ?_
    rintro e wb ⟨g, rfl, hb, Zb⟩
    have HB := Lib.hid hb
    have HZb := Lib.hid Zb
    clear hb Zb
    go_wp2
    go_loop [27] (fun i => ∃ k : Nat, k ≤ 2048 ∧ i = .int .i64 k) (fun i => 2048 - (intOf i).toNat)
    case atStart => exact ⟨0, by omega, rfl⟩
    case round =>
      obtain ⟨k, hk, rfl⟩ := hrel
      by_cases hlt : k < 2048
      · have hcell : wb.cell? ⟨g, k, none⟩ = some (.int .u8 0) := HB.out k hlt
        go_wp2
        go_round
        case rel => exact ⟨k + 1, by omega, by go_num⟩
        case measure => simp [intOf]; omega
      · have hkk : (2048 : Int) ≤ (k : Int) := by omega
        go_wp2
        go_ret
        exact ⟨rfl, HZb.out.kept⟩
  · have e1 : decide ((-1000000 : Int) < delta) = true := decide_eq_true (by omega)
    have e2 : decide (delta < (1000000 : Int)) = true := decide_eq_true (by omega)
    have e3 : decide (64 + delta < (0 : Int)) = true := decide_eq_true (by omega)
    go_wp2_with fail
    refine (Root_zr HZ2.out at_).mono ?_
    rintro e w3 ⟨x1, rfl, Z3⟩
    rw [H8.out]
    have HZ3 := Lib.hid Z3
    clear Z3
    go_wp2_with fail
    refine (Child_zr HZ3.out at_ right).mono ?_
    rintro e w4 ⟨x2, rfl, Z4⟩
    rw [H24.out]
    have HZ4 := Lib.hid Z4
    clear Z4
    go_wp2_with fail
    refine (Owner_zr HZ4.out at_).mono ?_
    rintro e w5 ⟨x3, rfl, Z5⟩
    rw [H24.out]
    have HZ5 := Lib.hid Z5
    clear Z5
    go_wp2_with fail
    refine (Red_zr HZ5.out at_).mono ?_
    rintro e w6 ⟨x4, rfl, Z6⟩
    rw [H24.out]
    have HZ6 := Lib.hid Z6
    clear Z6
    go_wp2_with fail
    refine (First_zr HZ6.out at_).mono ?_
    rintro e w7 ⟨x5, rfl, Z7⟩
    rw [H8.out]
    have HZ7 := Lib.hid Z7
    clear Z7
    go_wp2_with fail
    refine (All_zr HZ7.out at_).mono ?_
    rintro e w8 ⟨A6, n6, c6, rfl, Z8⟩
    rw [H8.out]
    have HZ8 := Lib.hid Z8
    clear Z8
    go_wp2_with fail
    refine (Add_zr HZ8.out 8 at_ 0 (.inr H24.out)).mono ?_
    rintro e w9 ⟨rfl, Z9⟩
    have HZ9 := Lib.hid Z9
    clear Z9
    go_wp2_with fail
    refine (Remove_zr HZ9.out 8 at_ (.inr H24.out)).mono ?_
    rintro e w10 ⟨rfl, Z10⟩
    have HZ10 := Lib.hid Z10
    clear Z10
    go_wp2_with fail
    refine (Add_zk HZ10.out delta (by omega) (by omega) (by omega)).mono ?_
    rintro e w11 ⟨rfl, Z11⟩
    have HZ11 := Lib.hid Z11
    clear Z11
    go_wp2_with fail
    refine (Add_zr HZ11.out at_ 64 (-8) (.inl H8.out)).mono ?_
    rintro e w12 ⟨rfl, Z12⟩
    have HZ12 := Lib.hid Z12
    clear Z12
    go_wp2_with fail
    refine (Remove_zr HZ12.out at_ 64 (.inl H8.out)).mono ?_
    rintro e w13 ⟨rfl, Z13⟩
    have HZ13 := Lib.hid Z13
    clear Z13
    go_wp2_with fail
    refine (Bytes_zr HZ13.out).mono ?_
    rintro e wb ⟨g, rfl, hb, Zb⟩
    have HB := Lib.hid hb
    have HZb := Lib.hid Zb
    clear hb Zb
    go_wp2
    go_loop [27] (fun i => ∃ k : Nat, k ≤ 2048 ∧ i = .int .i64 k) (fun i => 2048 - (intOf i).toNat)
    case atStart => exact ⟨0, by omega, rfl⟩
    case round =>
      obtain ⟨k, hk, rfl⟩ := hrel
      by_cases hlt : k < 2048
      · have hcell : wb.cell? ⟨g, k, none⟩ = some (.int .u8 0) := HB.out k hlt
        go_wp2
        go_round
        case rel => exact ⟨k + 1, by omega, by go_num⟩
        case measure => simp [intOf]; omega
      · have hkk : (2048 : Int) ≤ (k : Int) := by omega
        go_wp2
        go_ret
        exact ⟨rfl, HZb.out.kept⟩
  · have e1 : decide ((-1000000 : Int) < delta) = true := decide_eq_true (by omega)
    have e2 : decide (delta < (1000000 : Int)) = true := decide_eq_true (by omega)
    have e3 : decide (64 + delta < (0 : Int)) = false := decide_eq_false (by omega)
    have e4 : decide ((2040 : Int) < 64 + delta) = true := decide_eq_true (by omega)
    go_wp2_with fail
    refine (Root_zr HZ2.out at_).mono ?_
    rintro e w3 ⟨x1, rfl, Z3⟩
    rw [H8.out]
    have HZ3 := Lib.hid Z3
    clear Z3
    go_wp2_with fail
    refine (Child_zr HZ3.out at_ right).mono ?_
    rintro e w4 ⟨x2, rfl, Z4⟩
    rw [H24.out]
    have HZ4 := Lib.hid Z4
    clear Z4
    go_wp2_with fail
    refine (Owner_zr HZ4.out at_).mono ?_
    rintro e w5 ⟨x3, rfl, Z5⟩
    rw [H24.out]
    have HZ5 := Lib.hid Z5
    clear Z5
    go_wp2_with fail
    refine (Red_zr HZ5.out at_).mono ?_
    rintro e w6 ⟨x4, rfl, Z6⟩
    rw [H24.out]
    have HZ6 := Lib.hid Z6
    clear Z6
    go_wp2_with fail
    refine (First_zr HZ6.out at_).mono ?_
    rintro e w7 ⟨x5, rfl, Z7⟩
    rw [H8.out]
    have HZ7 := Lib.hid Z7
    clear Z7
    go_wp2_with fail
    refine (All_zr HZ7.out at_).mono ?_
    rintro e w8 ⟨A6, n6, c6, rfl, Z8⟩
    rw [H8.out]
    have HZ8 := Lib.hid Z8
    clear Z8
    go_wp2_with fail
    refine (Add_zr HZ8.out 8 at_ 0 (.inr H24.out)).mono ?_
    rintro e w9 ⟨rfl, Z9⟩
    have HZ9 := Lib.hid Z9
    clear Z9
    go_wp2_with fail
    refine (Remove_zr HZ9.out 8 at_ (.inr H24.out)).mono ?_
    rintro e w10 ⟨rfl, Z10⟩
    have HZ10 := Lib.hid Z10
    clear Z10
    go_wp2_with fail
    refine (Add_zk HZ10.out delta (by omega) (by omega) (by omega)).mono ?_
    rintro e w11 ⟨rfl, Z11⟩
    have HZ11 := Lib.hid Z11
    clear Z11
    go_wp2_with fail
    refine (Add_zr HZ11.out at_ 64 (-8) (.inl H8.out)).mono ?_
    rintro e w12 ⟨rfl, Z12⟩
    have HZ12 := Lib.hid Z12
    clear Z12
    go_wp2_with fail
    refine (Remove_zr HZ12.out at_ 64 (.inl H8.out)).mono ?_
    rintro e w13 ⟨rfl, Z13⟩
    have HZ13 := Lib.hid Z13
    clear Z13
    go_wp2_with fail
    refine (Bytes_zr HZ13.out).mono ?_
    rintro e wb ⟨g, rfl, hb, Zb⟩
    have HB := Lib.hid hb
    have HZb := Lib.hid Zb
    clear hb Zb
    go_wp2
    go_loop [27] (fun i => ∃ k : Nat, k ≤ 2048 ∧ i = .int .i64 k) (fun i => 2048 - (intOf i).toNat)
    case atStart => exact ⟨0, by omega, rfl⟩
    case round =>
      obtain ⟨k, hk, rfl⟩ := hrel
      by_cases hlt : k < 2048
      · have hcell : wb.cell? ⟨g, k, none⟩ = some (.int .u8 0) := HB.out k hlt
        go_wp2
        go_round
        case rel => exact ⟨k + 1, by omega, by go_num⟩
        case measure => simp [intOf]; omega
      · have hkk : (2048 : Int) ≤ (k : Int) := by omega
        go_wp2
        go_ret
        exact ⟨rfl, HZb.out.kept⟩
  · have e1 : decide ((-1000000 : Int) < delta) = true := decide_eq_true (by omega)
    have e2 : decide (delta < (1000000 : Int)) = true := decide_eq_true (by omega)
    have e3 : decide (64 + delta < (0 : Int)) = false := decide_eq_false (by omega)
    have e4 : decide ((2040 : Int) < 64 + delta) = false := decide_eq_false (by omega)
    go_wp2_with fail
    refine (Root_zr HZ2.out at_).mono ?_
    rintro e w3 ⟨x1, rfl, Z3⟩
    rw [H8.out]
    have HZ3 := Lib.hid Z3
    clear Z3
    go_wp2_with fail
    refine (Child_zr HZ3.out at_ right).mono ?_
    rintro e w4 ⟨x2, rfl, Z4⟩
    rw [H24.out]
    have HZ4 := Lib.hid Z4
    clear Z4
    go_wp2_with fail
    refine (Owner_zr HZ4.out at_).mono ?_
    rintro e w5 ⟨x3, rfl, Z5⟩
    rw [H24.out]
    have HZ5 := Lib.hid Z5
    clear Z5
    go_wp2_with fail
    refine (Red_zr HZ5.out at_).mono ?_
    rintro e w6 ⟨x4, rfl, Z6⟩
    rw [H24.out]
    have HZ6 := Lib.hid Z6
    clear Z6
    go_wp2_with fail
    refine (First_zr HZ6.out at_).mono ?_
    rintro e w7 ⟨x5, rfl, Z7⟩
    rw [H8.out]
    have HZ7 := Lib.hid Z7
    clear Z7
    go_wp2_with fail
    refine (All_zr HZ7.out at_).mono ?_
    rintro e w8 ⟨A6, n6, c6, rfl, Z8⟩
    rw [H8.out]
    have HZ8 := Lib.hid Z8
    clear Z8
    go_wp2_with fail
    refine (Add_zr HZ8.out 8 at_ 0 (.inr H24.out)).mono ?_
    rintro e w9 ⟨rfl, Z9⟩
    have HZ9 := Lib.hid Z9
    clear Z9
    go_wp2_with fail
    refine (Remove_zr HZ9.out 8 at_ (.inr H24.out)).mono ?_
    rintro e w10 ⟨rfl, Z10⟩
    have HZ10 := Lib.hid Z10
    clear Z10
    go_wp2_with fail
    refine (Add_zr HZ10.out at_ 64 (-8) (.inl H8.out)).mono ?_
    rintro e w11 ⟨rfl, Z11⟩
    have HZ11 := Lib.hid Z11
    clear Z11
    go_wp2_with fail
    refine (Remove_zr HZ11.out at_ 64 (.inl H8.out)).mono ?_
    rintro e w12 ⟨rfl, Z12⟩
    have HZ12 := Lib.hid Z12
    clear Z12
    go_wp2_with fail
    refine (Bytes_zr HZ12.out).mono ?_
    rintro e wb ⟨g, rfl, hb, Zb⟩
    have HB := Lib.hid hb
    have HZb := Lib.hid Zb
    clear hb Zb
    go_wp2
    go_loop [27] (fun i => ∃ k : Nat, k ≤ 2048 ∧ i = .int .i64 k) (fun i => 2048 - (intOf i).toNat)
    case atStart => exact ⟨0, by omega, rfl⟩
    case round =>
      obtain ⟨k, hk, rfl⟩ := hrel
      by_cases hlt : k < 2048
      · have hcell : wb.cell? ⟨g, k, none⟩ = some (.int .u8 0) := HB.out k hlt
        go_wp2
        go_round
        case rel => exact ⟨k + 1, by omega, by go_num⟩
        case measure => simp [intOf]; omega
      · have hkk : (2048 : Int) ≤ (k : Int) := by omega
        go_wp2
        go_ret
        exact ⟨rfl, HZb.out.kept⟩
set_option maxRecDepth 100000 in
set_option maxHeartbeats 4000000 in
theorem range_c (at_ delta : Int) (right : Bool) (w : World) (b0 : -9223372036854775808 ≤ delta) (b1 : delta ≤ 9223372036854775807) (hat : 2024 < at_ ∧ at_ ≤ 2040) : Calls Try.prog 8 #[.int .i64 at_, .int .i64 delta, .bool right] w fun e w' => e = .returned (.bool true) ∧ Kept w w' := by
  have d1 : decide (at_ < (1 : Int)) = false := decide_eq_false (by omega)
  have d2 : decide ((2040 : Int) < at_) = false := decide_eq_false (by omega)
  have d3 : decide ((2024 : Int) < at_) = true := decide_eq_true (by omega)
  have H8 : Hid (E8 at_ = 0) := Lib.hid (by unfold E8; rw [if_pos (by omega)])
  have H24 : Hid (E24 at_ = 4) := Lib.hid (by unfold E24; rw [if_neg (by omega)])
  clear hat
  have hcase : delta ≤ -1000000 ∨ 1000000 ≤ delta ∨ (-1000000 < delta ∧ delta < 1000000 ∧ 64 + delta < 0) ∨ (-1000000 < delta ∧ delta < 1000000 ∧ 2040 < 64 + delta) ∨ (-1000000 < delta ∧ delta < 1000000 ∧ 0 ≤ 64 + delta ∧ 64 + delta ≤ 2040) := by omega
  go_enter Try.func8, Try.ntmps8
  go_wp2_with fail
  refine (shown_calls _).mono ?_
  rintro e w1 ⟨rfl, K1⟩
  go_wp2_with fail
  refine (fresh_zr K1).mono ?_
  rintro e w2 ⟨p, d, rfl, Z2⟩
  have HZ2 := Lib.hid Z2
  clear Z2 K1
  rcases hcase with hd | hd | ⟨hd1, hd2, hd3⟩ | ⟨hd1, hd2, hd3⟩ | ⟨hd1, hd2, hd3, hd4⟩
  · have e1 : decide ((-1000000 : Int) < delta) = false := decide_eq_false (by omega)
    go_wp2_with fail
    refine (Root_zr HZ2.out at_).mono ?_
    rintro e w3 ⟨x1, rfl, Z3⟩
    rw [H8.out]
    have HZ3 := Lib.hid Z3
    clear Z3
    go_wp2_with fail
    refine (Child_zr HZ3.out at_ right).mono ?_
    rintro e w4 ⟨x2, rfl, Z4⟩
    rw [H24.out]
    have HZ4 := Lib.hid Z4
    clear Z4
    go_wp2_with fail
    refine (Owner_zr HZ4.out at_).mono ?_
    rintro e w5 ⟨x3, rfl, Z5⟩
    rw [H24.out]
    have HZ5 := Lib.hid Z5
    clear Z5
    go_wp2_with fail
    refine (Red_zr HZ5.out at_).mono ?_
    rintro e w6 ⟨x4, rfl, Z6⟩
    rw [H24.out]
    have HZ6 := Lib.hid Z6
    clear Z6
    go_wp2_with fail
    refine (First_zr HZ6.out at_).mono ?_
    rintro e w7 ⟨x5, rfl, Z7⟩
    rw [H8.out]
    have HZ7 := Lib.hid Z7
    clear Z7
    go_wp2_with fail
    refine (All_zr HZ7.out at_).mono ?_
    rintro e w8 ⟨A6, n6, c6, rfl, Z8⟩
    rw [H8.out]
    have HZ8 := Lib.hid Z8
    clear Z8
    go_wp2_with fail
    refine (Add_zr HZ8.out 8 at_ 0 (.inr H24.out)).mono ?_
    rintro e w9 ⟨rfl, Z9⟩
    have HZ9 := Lib.hid Z9
    clear Z9
    go_wp2_with fail
    refine (Remove_zr HZ9.out 8 at_ (.inr H24.out)).mono ?_
    rintro e w10 ⟨rfl, Z10⟩
    have HZ10 := Lib.hid Z10
    clear Z10
    go_wp2_with fail
    refine (Bytes_zr HZ10.out).mono ?_
    rintro e wb ⟨g, rfl, hb, Zb⟩
    have HB := Lib.hid hb
    have HZb := Lib.hid Zb
    clear hb Zb
    go_wp2
    go_loop [27] (fun i => ∃ k : Nat, k ≤ 2048 ∧ i = .int .i64 k) (fun i => 2048 - (intOf i).toNat)
    case atStart => exact ⟨0, by omega, rfl⟩
    case round =>
      obtain ⟨k, hk, rfl⟩ := hrel
      by_cases hlt : k < 2048
      · have hcell : wb.cell? ⟨g, k, none⟩ = some (.int .u8 0) := HB.out k hlt
        go_wp2
        go_round
        case rel => exact ⟨k + 1, by omega, by go_num⟩
        case measure => simp [intOf]; omega
      · have hkk : (2048 : Int) ≤ (k : Int) := by omega
        go_wp2
        go_ret
        exact ⟨rfl, HZb.out.kept⟩
  · have e1 : decide ((-1000000 : Int) < delta) = true := decide_eq_true (by omega)
    have e2 : decide (delta < (1000000 : Int)) = false := decide_eq_false (by omega)
    go_wp2_with fail
    refine (Root_zr HZ2.out at_).mono ?_
    rintro e w3 ⟨x1, rfl, Z3⟩
    rw [H8.out]
    have HZ3 := Lib.hid Z3
    clear Z3
    go_wp2_with fail
    refine (Child_zr HZ3.out at_ right).mono ?_
    rintro e w4 ⟨x2, rfl, Z4⟩
    rw [H24.out]
    have HZ4 := Lib.hid Z4
    clear Z4
    go_wp2_with fail
    refine (Owner_zr HZ4.out at_).mono ?_
    rintro e w5 ⟨x3, rfl, Z5⟩
    rw [H24.out]
    have HZ5 := Lib.hid Z5
    clear Z5
    go_wp2_with fail
    refine (Red_zr HZ5.out at_).mono ?_
    rintro e w6 ⟨x4, rfl, Z6⟩
    rw [H24.out]
    have HZ6 := Lib.hid Z6
    clear Z6
    go_wp2_with fail
    refine (First_zr HZ6.out at_).mono ?_
    rintro e w7 ⟨x5, rfl, Z7⟩
    rw [H8.out]
    have HZ7 := Lib.hid Z7
    clear Z7
    go_wp2_with fail
    refine (All_zr HZ7.out at_).mono ?_
    rintro e w8 ⟨A6, n6, c6, rfl, Z8⟩
    rw [H8.out]
    have HZ8 := Lib.hid Z8
    clear Z8
    go_wp2_with fail
    refine (Add_zr HZ8.out 8 at_ 0 (.inr H24.out)).mono ?_
    rintro e w9 ⟨rfl, Z9⟩
    have HZ9 := Lib.hid Z9
    clear Z9
    go_wp2_with fail
    refine (Remove_zr HZ9.out 8 at_ (.inr H24.out)).mono ?_
    rintro e w10 ⟨rfl, Z10⟩
    have HZ10 := Lib.hid Z10
    clear Z10
    go_wp2_with fail
    refine (Bytes_zr HZ10.out).mono ?_
    rintro e wb ⟨g, rfl, hb, Zb⟩
    have HB := Lib.hid hb
    have HZb := Lib.hid Zb
    clear hb Zb
    go_wp2
    go_loop [27] (fun i => ∃ k : Nat, k ≤ 2048 ∧ i = .int .i64 k) (fun i => 2048 - (intOf i).toNat)
    case atStart => exact ⟨0, by omega, rfl⟩
    case round =>
      obtain ⟨k, hk, rfl⟩ := hrel
      by_cases hlt : k < 2048
      · have hcell : wb.cell? ⟨g, k, none⟩ = some (.int .u8 0) := HB.out k hlt
        go_wp2
        go_round
        case rel => exact ⟨k + 1, by omega, by go_num⟩
        case measure => simp [intOf]; omega
      · have hkk : (2048 : Int) ≤ (k : Int) := by omega
        go_wp2
        go_ret
        exact ⟨rfl, HZb.out.kept⟩
  · have e1 : decide ((-1000000 : Int) < delta) = true := decide_eq_true (by omega)
    have e2 : decide (delta < (1000000 : Int)) = true := decide_eq_true (by omega)
    have e3 : decide (64 + delta < (0 : Int)) = true := decide_eq_true (by omega)
    go_wp2_with fail
    refine (Root_zr HZ2.out at_).mono ?_
    rintro e w3 ⟨x1, rfl, Z3⟩
    rw [H8.out]
    have HZ3 := Lib.hid Z3
    clear Z3
    go_wp2_with fail
    refine (Child_zr HZ3.out at_ right).mono ?_
    rintro e w4 ⟨x2, rfl, Z4⟩
    rw [H24.out]
    have HZ4 := Lib.hid Z4
    clear Z4
    go_wp2_with fail
    refine (Owner_zr HZ4.out at_).mono ?_
    rintro e w5 ⟨x3, rfl, Z5⟩
    rw [H24.out]
    have HZ5 := Lib.hid Z5
    clear Z5
    go_wp2_with fail
    refine (Red_zr HZ5.out at_).mono ?_
    rintro e w6 ⟨x4, rfl, Z6⟩
    rw [H24.out]
    have HZ6 := Lib.hid Z6
    clear Z6
    go_wp2_with fail
    refine (First_zr HZ6.out at_).mono ?_
    rintro e w7 ⟨x5, rfl, Z7⟩
    rw [H8.out]
    have HZ7 := Lib.hid Z7
    clear Z7
    go_wp2_with fail
    refine (All_zr HZ7.out at_).mono ?_
    rintro e w8 ⟨A6, n6, c6, rfl, Z8⟩
    rw [H8.out]
    have HZ8 := Lib.hid Z8
    clear Z8
    go_wp2_with fail
    refine (Add_zr HZ8.out 8 at_ 0 (.inr H24.out)).mono ?_
    rintro e w9 ⟨rfl, Z9⟩
    have HZ9 := Lib.hid Z9
    clear Z9
    go_wp2_with fail
    refine (Remove_zr HZ9.out 8 at_ (.inr H24.out)).mono ?_
    rintro e w10 ⟨rfl, Z10⟩
    have HZ10 := Lib.hid Z10
    clear Z10
    go_wp2_with fail
    refine (Add_zk HZ10.out delta (by omega) (by omega) (by omega)).mono ?_
    rintro e w11 ⟨rfl, Z11⟩
    have HZ11 := Lib.hid Z11
    clear Z11
    go_wp2_with fail
    refine (Bytes_zr HZ11.out).mono ?_
    rintro e wb ⟨g, rfl, hb, Zb⟩
    have HB := Lib.hid hb
    have HZb := Lib.hid Zb
    clear hb Zb
    go_wp2
    go_loop [27] (fun i => ∃ k : Nat, k ≤ 2048 ∧ i = .int .i64 k) (fun i => 2048 - (intOf i).toNat)
    case atStart => exact ⟨0, by omega, rfl⟩
    case round =>
      obtain ⟨k, hk, rfl⟩ := hrel
      by_cases hlt : k < 2048
      · have hcell : wb.cell? ⟨g, k, none⟩ = some (.int .u8 0) := HB.out k hlt
        go_wp2
        go_round
        case rel => exact ⟨k + 1, by omega, by go_num⟩
        case measure => simp [intOf]; omega
      · have hkk : (2048 : Int) ≤ (k : Int) := by omega
        go_wp2
        go_ret
        exact ⟨rfl, HZb.out.kept⟩
  · have e1 : decide ((-1000000 : Int) < delta) = true := decide_eq_true (by omega)
    have e2 : decide (delta < (1000000 : Int)) = true := decide_eq_true (by omega)
    have e3 : decide (64 + delta < (0 : Int)) = false := decide_eq_false (by omega)
    have e4 : decide ((2040 : Int) < 64 + delta) = true := decide_eq_true (by omega)
    go_wp2_with fail
    refine (Root_zr HZ2.out at_).mono ?_
    rintro e w3 ⟨x1, rfl, Z3⟩
    rw [H8.out]
    have HZ3 := Lib.hid Z3
    clear Z3
    go_wp2_with fail
    refine (Child_zr HZ3.out at_ right).mono ?_
    rintro e w4 ⟨x2, rfl, Z4⟩
    rw [H24.out]
    have HZ4 := Lib.hid Z4
    clear Z4
    go_wp2_with fail
    refine (Owner_zr HZ4.out at_).mono ?_
    rintro e w5 ⟨x3, rfl, Z5⟩
    rw [H24.out]
    have HZ5 := Lib.hid Z5
    clear Z5
    go_wp2_with fail
    refine (Red_zr HZ5.out at_).mono ?_
    rintro e w6 ⟨x4, rfl, Z6⟩
    rw [H24.out]
    have HZ6 := Lib.hid Z6
    clear Z6
    go_wp2_with fail
    refine (First_zr HZ6.out at_).mono ?_
    rintro e w7 ⟨x5, rfl, Z7⟩
    rw [H8.out]
    have HZ7 := Lib.hid Z7
    clear Z7
    go_wp2_with fail
    refine (All_zr HZ7.out at_).mono ?_
    rintro e w8 ⟨A6, n6, c6, rfl, Z8⟩
    rw [H8.out]
    have HZ8 := Lib.hid Z8
    clear Z8
    go_wp2_with fail
    refine (Add_zr HZ8.out 8 at_ 0 (.inr H24.out)).mono ?_
    rintro e w9 ⟨rfl, Z9⟩
    have HZ9 := Lib.hid Z9
    clear Z9
    go_wp2_with fail
    refine (Remove_zr HZ9.out 8 at_ (.inr H24.out)).mono ?_
    rintro e w10 ⟨rfl, Z10⟩
    have HZ10 := Lib.hid Z10
    clear Z10
    go_wp2_with fail
    refine (Add_zk HZ10.out delta (by omega) (by omega) (by omega)).mono ?_
    rintro e w11 ⟨rfl, Z11⟩
    have HZ11 := Lib.hid Z11
    clear Z11
    go_wp2_with fail
    refine (Bytes_zr HZ11.out).mono ?_
    rintro e wb ⟨g, rfl, hb, Zb⟩
    have HB := Lib.hid hb
    have HZb := Lib.hid Zb
    clear hb Zb
    go_wp2
    go_loop [27] (fun i => ∃ k : Nat, k ≤ 2048 ∧ i = .int .i64 k) (fun i => 2048 - (intOf i).toNat)
    case atStart => exact ⟨0, by omega, rfl⟩
    case round =>
      obtain ⟨k, hk, rfl⟩ := hrel
      by_cases hlt : k < 2048
      · have hcell : wb.cell? ⟨g, k, none⟩ = some (.int .u8 0) := HB.out k hlt
        go_wp2
        go_round
        case rel => exact ⟨k + 1, by omega, by go_num⟩
        case measure => simp [intOf]; omega
      · have hkk : (2048 : Int) ≤ (k : Int) := by omega
        go_wp2
        go_ret
        exact ⟨rfl, HZb.out.kept⟩
  · have e1 : decide ((-1000000 : Int) < delta) = true := decide_eq_true (by omega)
    have e2 : decide (delta < (1000000 : Int)) = true := decide_eq_true (by omega)
    have e3 : decide (64 + delta < (0 : Int)) = false := decide_eq_false (by omega)
    have e4 : decide ((2040 : Int) < 64 + delta) = false := decide_eq_false (by omega)
    go_wp2_with fail
    refine (Root_zr HZ2.out at_).mono ?_
    rintro e w3 ⟨x1, rfl, Z3⟩
    rw [H8.out]
    have HZ3 := Lib.hid Z3
    clear Z3
    go_wp2_with fail
    refine (Child_zr HZ3.out at_ right).mono ?_
    rintro e w4 ⟨x2, rfl, Z4⟩
    rw [H24.out]
    have HZ4 := Lib.hid Z4
    clear Z4
    go_wp2_with fail
    refine (Owner_zr HZ4.out at_).mono ?_
    rintro e w5 ⟨x3, rfl, Z5⟩
    rw [H24.out]
    have HZ5 := Lib.hid Z5
    clear Z5
    go_wp2_with fail
    refine (Red_zr HZ5.out at_).mono ?_
    rintro e w6 ⟨x4, rfl, Z6⟩
    rw [H24.out]
    have HZ6 := Lib.hid Z6
    clear Z6
    go_wp2_with fail
    refine (First_zr HZ6.out at_).mono ?_
    rintro e w7 ⟨x5, rfl, Z7⟩
    rw [H8.out]
    have HZ7 := Lib.hid Z7
    clear Z7
    go_wp2_with fail
    refine (All_zr HZ7.out at_).mono ?_
    rintro e w8 ⟨A6, n6, c6, rfl, Z8⟩
    rw [H8.out]
    have HZ8 := Lib.hid Z8
    clear Z8
    go_wp2_with fail
    refine (Add_zr HZ8.out 8 at_ 0 (.inr H24.out)).mono ?_
    rintro e w9 ⟨rfl, Z9⟩
    have HZ9 := Lib.hid Z9
    clear Z9
    go_wp2_with fail
    refine (Remove_zr HZ9.out 8 at_ (.inr H24.out)).mono ?_
    rintro e w10 ⟨rfl, Z10⟩
    have HZ10 := Lib.hid Z10
    clear Z10
    go_wp2_with fail
    refine (Bytes_zr HZ10.out).mono ?_
    rintro e wb ⟨g, rfl, hb, Zb⟩
    have HB := Lib.hid hb
    have HZb := Lib.hid Zb
    clear hb Zb
    go_wp2
    go_loop [27] (fun i => ∃ k : Nat, k ≤ 2048 ∧ i = .int .i64 k) (fun i => 2048 - (intOf i).toNat)
    case atStart => exact ⟨0, by omega, rfl⟩
    case round =>
      obtain ⟨k, hk, rfl⟩ := hrel
      by_cases hlt : k < 2048
      · have hcell : wb.cell? ⟨g, k, none⟩ = some (.int .u8 0) := HB.out k hlt
        go_wp2
        go_round
        case rel => exact ⟨k + 1, by omega, by go_num⟩
        case measure => simp [intOf]; omega
      · have hkk : (2048 : Int) ≤ (k : Int) := by omega
        go_wp2
        go_ret
        exact ⟨rfl, HZb.out.kept⟩
set_option maxRecDepth 100000 in
set_option maxHeartbeats 4000000 in
theorem range_d (at_ delta : Int) (right : Bool) (w : World) (b0 : -9223372036854775808 ≤ delta) (b1 : delta ≤ 9223372036854775807) (hat : 1 ≤ at_ ∧ at_ ≤ 2024) : Calls Try.prog 8 #[.int .i64 at_, .int .i64 delta, .bool right] w fun e w' => e = .returned (.bool true) ∧ Kept w w' := by
  have d1 : decide (at_ < (1 : Int)) = false := decide_eq_false (by omega)
  have d2 : decide ((2040 : Int) < at_) = false := decide_eq_false (by omega)
  have d3 : decide ((2024 : Int) < at_) = false := decide_eq_false (by omega)
  have H8 : Hid (E8 at_ = 0) := Lib.hid (by unfold E8; rw [if_pos (by omega)])
  have H24 : Hid (E24 at_ = 0) := Lib.hid (by unfold E24; rw [if_pos (by omega)])
  clear hat
  have hcase : delta ≤ -1000000 ∨ 1000000 ≤ delta ∨ (-1000000 < delta ∧ delta < 1000000 ∧ 64 + delta < 0) ∨ (-1000000 < delta ∧ delta < 1000000 ∧ 2040 < 64 + delta) ∨ (-1000000 < delta ∧ delta < 1000000 ∧ 0 ≤ 64 + delta ∧ 64 + delta ≤ 2040) := by omega
  go_enter Try.func8, Try.ntmps8
  go_wp2_with fail
  refine (shown_calls _).mono ?_
  rintro e w1 ⟨rfl, K1⟩
  go_wp2_with fail
  refine (fresh_zr K1).mono ?_
  rintro e w2 ⟨p, d, rfl, Z2⟩
  have HZ2 := Lib.hid Z2
  clear Z2 K1
  rcases hcase with hd | hd | ⟨hd1, hd2, hd3⟩ | ⟨hd1, hd2, hd3⟩ | ⟨hd1, hd2, hd3, hd4⟩
  · have e1 : decide ((-1000000 : Int) < delta) = false := decide_eq_false (by omega)
    go_wp2_with fail
    refine (Root_zr HZ2.out at_).mono ?_
    rintro e w3 ⟨x1, rfl, Z3⟩
    rw [H8.out]
    have HZ3 := Lib.hid Z3
    clear Z3
    go_wp2_with fail
    refine (Child_zr HZ3.out at_ right).mono ?_
    rintro e w4 ⟨x2, rfl, Z4⟩
    rw [H24.out]
    have HZ4 := Lib.hid Z4
    clear Z4
    go_wp2_with fail
    refine (Owner_zr HZ4.out at_).mono ?_
    rintro e w5 ⟨x3, rfl, Z5⟩
    rw [H24.out]
    have HZ5 := Lib.hid Z5
    clear Z5
    go_wp2_with fail
    refine (Red_zr HZ5.out at_).mono ?_
    rintro e w6 ⟨x4, rfl, Z6⟩
    rw [H24.out]
    have HZ6 := Lib.hid Z6
    clear Z6
    go_wp2_with fail
    refine (First_zr HZ6.out at_).mono ?_
    rintro e w7 ⟨x5, rfl, Z7⟩
    rw [H8.out]
    have HZ7 := Lib.hid Z7
    clear Z7
    go_wp2_with fail
    refine (All_zr HZ7.out at_).mono ?_
    rintro e w8 ⟨A6, n6, c6, rfl, Z8⟩
    rw [H8.out]
    have HZ8 := Lib.hid Z8
    clear Z8
    go_wp2_with fail
    refine (Bytes_zr HZ8.out).mono ?_
    rintro e wb ⟨g, rfl, hb, Zb⟩
    have HB := Lib.hid hb
    have HZb := Lib.hid Zb
    clear hb Zb
    go_wp2
    go_loop [27] (fun i => ∃ k : Nat, k ≤ 2048 ∧ i = .int .i64 k) (fun i => 2048 - (intOf i).toNat)
    case atStart => exact ⟨0, by omega, rfl⟩
    case round =>
      obtain ⟨k, hk, rfl⟩ := hrel
      by_cases hlt : k < 2048
      · have hcell : wb.cell? ⟨g, k, none⟩ = some (.int .u8 0) := HB.out k hlt
        go_wp2
        go_round
        case rel => exact ⟨k + 1, by omega, by go_num⟩
        case measure => simp [intOf]; omega
      · have hkk : (2048 : Int) ≤ (k : Int) := by omega
        go_wp2
        go_ret
        exact ⟨rfl, HZb.out.kept⟩
  · have e1 : decide ((-1000000 : Int) < delta) = true := decide_eq_true (by omega)
    have e2 : decide (delta < (1000000 : Int)) = false := decide_eq_false (by omega)
    go_wp2_with fail
    refine (Root_zr HZ2.out at_).mono ?_
    rintro e w3 ⟨x1, rfl, Z3⟩
    rw [H8.out]
    have HZ3 := Lib.hid Z3
    clear Z3
    go_wp2_with fail
    refine (Child_zr HZ3.out at_ right).mono ?_
    rintro e w4 ⟨x2, rfl, Z4⟩
    rw [H24.out]
    have HZ4 := Lib.hid Z4
    clear Z4
    go_wp2_with fail
    refine (Owner_zr HZ4.out at_).mono ?_
    rintro e w5 ⟨x3, rfl, Z5⟩
    rw [H24.out]
    have HZ5 := Lib.hid Z5
    clear Z5
    go_wp2_with fail
    refine (Red_zr HZ5.out at_).mono ?_
    rintro e w6 ⟨x4, rfl, Z6⟩
    rw [H24.out]
    have HZ6 := Lib.hid Z6
    clear Z6
    go_wp2_with fail
    refine (First_zr HZ6.out at_).mono ?_
    rintro e w7 ⟨x5, rfl, Z7⟩
    rw [H8.out]
    have HZ7 := Lib.hid Z7
    clear Z7
    go_wp2_with fail
    refine (All_zr HZ7.out at_).mono ?_
    rintro e w8 ⟨A6, n6, c6, rfl, Z8⟩
    rw [H8.out]
    have HZ8 := Lib.hid Z8
    clear Z8
    go_wp2_with fail
    refine (Bytes_zr HZ8.out).mono ?_
    rintro e wb ⟨g, rfl, hb, Zb⟩
    have HB := Lib.hid hb
    have HZb := Lib.hid Zb
    clear hb Zb
    go_wp2
    go_loop [27] (fun i => ∃ k : Nat, k ≤ 2048 ∧ i = .int .i64 k) (fun i => 2048 - (intOf i).toNat)
    case atStart => exact ⟨0, by omega, rfl⟩
    case round =>
      obtain ⟨k, hk, rfl⟩ := hrel
      by_cases hlt : k < 2048
      · have hcell : wb.cell? ⟨g, k, none⟩ = some (.int .u8 0) := HB.out k hlt
        go_wp2
        go_round
        case rel => exact ⟨k + 1, by omega, by go_num⟩
        case measure => simp [intOf]; omega
      · have hkk : (2048 : Int) ≤ (k : Int) := by omega
        go_wp2
        go_ret
        exact ⟨rfl, HZb.out.kept⟩
  · have e1 : decide ((-1000000 : Int) < delta) = true := decide_eq_true (by omega)
    have e2 : decide (delta < (1000000 : Int)) = true := decide_eq_true (by omega)
    have e3 : decide (64 + delta < (0 : Int)) = true := decide_eq_true (by omega)
    go_wp2_with fail
    refine (Root_zr HZ2.out at_).mono ?_
    rintro e w3 ⟨x1, rfl, Z3⟩
    rw [H8.out]
    have HZ3 := Lib.hid Z3
    clear Z3
    go_wp2_with fail
    refine (Child_zr HZ3.out at_ right).mono ?_
    rintro e w4 ⟨x2, rfl, Z4⟩
    rw [H24.out]
    have HZ4 := Lib.hid Z4
    clear Z4
    go_wp2_with fail
    refine (Owner_zr HZ4.out at_).mono ?_
    rintro e w5 ⟨x3, rfl, Z5⟩
    rw [H24.out]
    have HZ5 := Lib.hid Z5
    clear Z5
    go_wp2_with fail
    refine (Red_zr HZ5.out at_).mono ?_
    rintro e w6 ⟨x4, rfl, Z6⟩
    rw [H24.out]
    have HZ6 := Lib.hid Z6
    clear Z6
    go_wp2_with fail
    refine (First_zr HZ6.out at_).mono ?_
    rintro e w7 ⟨x5, rfl, Z7⟩
    rw [H8.out]
    have HZ7 := Lib.hid Z7
    clear Z7
    go_wp2_with fail
    refine (All_zr HZ7.out at_).mono ?_
    rintro e w8 ⟨A6, n6, c6, rfl, Z8⟩
    rw [H8.out]
    have HZ8 := Lib.hid Z8
    clear Z8
    go_wp2_with fail
    refine (Add_zk HZ8.out delta (by omega) (by omega) (by omega)).mono ?_
    rintro e w9 ⟨rfl, Z9⟩
    have HZ9 := Lib.hid Z9
    clear Z9
    go_wp2_with fail
    refine (Bytes_zr HZ9.out).mono ?_
    rintro e wb ⟨g, rfl, hb, Zb⟩
    have HB := Lib.hid hb
    have HZb := Lib.hid Zb
    clear hb Zb
    go_wp2
    go_loop [27] (fun i => ∃ k : Nat, k ≤ 2048 ∧ i = .int .i64 k) (fun i => 2048 - (intOf i).toNat)
    case atStart => exact ⟨0, by omega, rfl⟩
    case round =>
      obtain ⟨k, hk, rfl⟩ := hrel
      by_cases hlt : k < 2048
      · have hcell : wb.cell? ⟨g, k, none⟩ = some (.int .u8 0) := HB.out k hlt
        go_wp2
        go_round
        case rel => exact ⟨k + 1, by omega, by go_num⟩
        case measure => simp [intOf]; omega
      · have hkk : (2048 : Int) ≤ (k : Int) := by omega
        go_wp2
        go_ret
        exact ⟨rfl, HZb.out.kept⟩
  · have e1 : decide ((-1000000 : Int) < delta) = true := decide_eq_true (by omega)
    have e2 : decide (delta < (1000000 : Int)) = true := decide_eq_true (by omega)
    have e3 : decide (64 + delta < (0 : Int)) = false := decide_eq_false (by omega)
    have e4 : decide ((2040 : Int) < 64 + delta) = true := decide_eq_true (by omega)
    go_wp2_with fail
    refine (Root_zr HZ2.out at_).mono ?_
    rintro e w3 ⟨x1, rfl, Z3⟩
    rw [H8.out]
    have HZ3 := Lib.hid Z3
    clear Z3
    go_wp2_with fail
    refine (Child_zr HZ3.out at_ right).mono ?_
    rintro e w4 ⟨x2, rfl, Z4⟩
    rw [H24.out]
    have HZ4 := Lib.hid Z4
    clear Z4
    go_wp2_with fail
    refine (Owner_zr HZ4.out at_).mono ?_
    rintro e w5 ⟨x3, rfl, Z5⟩
    rw [H24.out]
    have HZ5 := Lib.hid Z5
    clear Z5
    go_wp2_with fail
    refine (Red_zr HZ5.out at_).mono ?_
    rintro e w6 ⟨x4, rfl, Z6⟩
    rw [H24.out]
    have HZ6 := Lib.hid Z6
    clear Z6
    go_wp2_with fail
    refine (First_zr HZ6.out at_).mono ?_
    rintro e w7 ⟨x5, rfl, Z7⟩
    rw [H8.out]
    have HZ7 := Lib.hid Z7
    clear Z7
    go_wp2_with fail
    refine (All_zr HZ7.out at_).mono ?_
    rintro e w8 ⟨A6, n6, c6, rfl, Z8⟩
    rw [H8.out]
    have HZ8 := Lib.hid Z8
    clear Z8
    go_wp2_with fail
    refine (Add_zk HZ8.out delta (by omega) (by omega) (by omega)).mono ?_
    rintro e w9 ⟨rfl, Z9⟩
    have HZ9 := Lib.hid Z9
    clear Z9
    go_wp2_with fail
    refine (Bytes_zr HZ9.out).mono ?_
    rintro e wb ⟨g, rfl, hb, Zb⟩
    have HB := Lib.hid hb
    have HZb := Lib.hid Zb
    clear hb Zb
    go_wp2
    go_loop [27] (fun i => ∃ k : Nat, k ≤ 2048 ∧ i = .int .i64 k) (fun i => 2048 - (intOf i).toNat)
    case atStart => exact ⟨0, by omega, rfl⟩
    case round =>
      obtain ⟨k, hk, rfl⟩ := hrel
      by_cases hlt : k < 2048
      · have hcell : wb.cell? ⟨g, k, none⟩ = some (.int .u8 0) := HB.out k hlt
        go_wp2
        go_round
        case rel => exact ⟨k + 1, by omega, by go_num⟩
        case measure => simp [intOf]; omega
      · have hkk : (2048 : Int) ≤ (k : Int) := by omega
        go_wp2
        go_ret
        exact ⟨rfl, HZb.out.kept⟩
  · have e1 : decide ((-1000000 : Int) < delta) = true := decide_eq_true (by omega)
    have e2 : decide (delta < (1000000 : Int)) = true := decide_eq_true (by omega)
    have e3 : decide (64 + delta < (0 : Int)) = false := decide_eq_false (by omega)
    have e4 : decide ((2040 : Int) < 64 + delta) = false := decide_eq_false (by omega)
    go_wp2_with fail
    refine (Root_zr HZ2.out at_).mono ?_
    rintro e w3 ⟨x1, rfl, Z3⟩
    rw [H8.out]
    have HZ3 := Lib.hid Z3
    clear Z3
    go_wp2_with fail
    refine (Child_zr HZ3.out at_ right).mono ?_
    rintro e w4 ⟨x2, rfl, Z4⟩
    rw [H24.out]
    have HZ4 := Lib.hid Z4
    clear Z4
    go_wp2_with fail
    refine (Owner_zr HZ4.out at_).mono ?_
    rintro e w5 ⟨x3, rfl, Z5⟩
    rw [H24.out]
    have HZ5 := Lib.hid Z5
    clear Z5
    go_wp2_with fail
    refine (Red_zr HZ5.out at_).mono ?_
    rintro e w6 ⟨x4, rfl, Z6⟩
    rw [H24.out]
    have HZ6 := Lib.hid Z6
    clear Z6
    go_wp2_with fail
    refine (First_zr HZ6.out at_).mono ?_
    rintro e w7 ⟨x5, rfl, Z7⟩
    rw [H8.out]
    have HZ7 := Lib.hid Z7
    clear Z7
    go_wp2_with fail
    refine (All_zr HZ7.out at_).mono ?_
    rintro e w8 ⟨A6, n6, c6, rfl, Z8⟩
    rw [H8.out]
    have HZ8 := Lib.hid Z8
    clear Z8
    go_wp2_with fail
    refine (Bytes_zr HZ8.out).mono ?_
    rintro e wb ⟨g, rfl, hb, Zb⟩
    have HB := Lib.hid hb
    have HZb := Lib.hid Zb
    clear hb Zb
    go_wp2
    go_loop [27] (fun i => ∃ k : Nat, k ≤ 2048 ∧ i = .int .i64 k) (fun i => 2048 - (intOf i).toNat)
    case atStart => exact ⟨0, by omega, rfl⟩
    case round =>
      obtain ⟨k, hk, rfl⟩ := hrel
      by_cases hlt : k < 2048
      · have hcell : wb.cell? ⟨g, k, none⟩ = some (.int .u8 0) := HB.out k hlt
        go_wp2
        go_round
        case rel => exact ⟨k + 1, by omega, by go_num⟩
        case measure => simp [intOf]; omega
      · have hkk : (2048 : Int) ≤ (k : Int) := by omega
        go_wp2
        go_ret
        exact ⟨rfl, HZb.out.kept⟩
theorem TreeRange_calls (at_ delta : Int) (right : Bool) (w : World) (b0 : -9223372036854775808 ≤ delta) (b1 : delta ≤ 9223372036854775807) : Calls Try.prog 8 #[.int .i64 at_, .int .i64 delta, .bool right] w fun e w' => e = .returned (.bool true) ∧ Kept w w' := by
  by_cases h1 : at_ < 1
  · exact range_a at_ delta right w b0 b1 h1
  · by_cases h2 : 2040 < at_
    · exact range_b at_ delta right w b0 b1 h2
    · by_cases h3 : 2024 < at_
      · exact range_c at_ delta right w b0 b1 ⟨h3, by omega⟩
      · exact range_d at_ delta right w b0 b1 ⟨by omega, by omega⟩
end Go.Proofs.Ythkppnkhiimaeaa
