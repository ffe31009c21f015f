/- ArenaApart: two stores at places that don't overlap can be done in either order; of two at one place the later one is loaded. -/
import Derived.Test.YtdanncfnndcbbaaShown01
set_option linter.unusedVariables false
set_option linter.unusedSimpArgs false
namespace Go.Proofs.Ytdanncfnndcbbaa
open Go.RowKit

/-- Two arenas that were made since the call began. -/
structure Two (w0 w : World) (p d : Nat) (bs : List Int) (q c : Nat) (cs : List Int) : Prop where
  kept : Kept w0 w
  ar : Ar w p d bs
  ar' : Ar w q c cs
  new : w0.heap.size ≤ d
  new' : w0.heap.size ≤ c
  ne1 : d ≠ c
  ne2 : p ≠ c
  ne3 : q ≠ d

theorem Ar.grown {w w' : World} {p d : Nat} {bs : List Int} (h : Ar w p d bs) {g : Nat} (hg : w.grownBy w' (some g)) (h1 : p ≠ g) (h2 : d ≠ g) : Ar w' p d bs :=
  ⟨(hg.block p h.lt.1 (fun e => h1 (by injection e))).trans h.hdr, (hg.block d h.lt.2 (fun e => h2 (by injection e))).trans h.row, h.ne, h.len, h.rng⟩

section
variable {w0 w : World} {p d : Nat} {bs : List Int} {q c : Nat} {cs : List Int}
theorem Two.then_ {w1 : World} (h : Two w0 w p d bs q c cs) (k : Below w.heap.size w w1) : Two w0 w1 p d bs q c cs := ⟨h.kept.then_ k, h.ar.below k, h.ar'.below k, h.new, h.new', h.ne1, h.ne2, h.ne3⟩

theorem New_two (S : One w0 w p d bs) (n : Int) (h0 : 0 ≤ n) (h1 : n ≤ 65536) :
    Calls Try.prog 10 #[.int .i64 n] w fun e w' => ∃ q c : Nat, e = .returned (.tuple #[.pointer (some ⟨q, 0, none⟩), .int .i64 0]) ∧ Two w0 w' p d bs q c (zeros n.toNat) := by
  refine (New_ok n w h0 h1).mono ?_
  rintro e w' ⟨q, c, h, hA, hq, hc, hB⟩
  have := S.ar.lt
  exact ⟨q, c, h, S.kept.then_ hB, S.ar.below hB, hA, S.new, Nat.le_trans S.kept.below.size hc, by omega, by omega, by omega⟩

theorem Load_one (S : Two w0 w p d bs q c cs) (at_ wd : Int) :
    Calls Try.prog 11 #[.pointer (some ⟨p, 0, none⟩), .int .i64 at_, .int .i64 wd] w fun e w' =>
      e = .returned (.tuple #[.int .u64 (ldA bs at_ wd), .int .i64 (nErr bs.length at_ wd)]) ∧ Two w0 w' p d bs q c cs :=
  (Load_any at_ wd w S.ar).mono fun _ _ ⟨h, hB⟩ => ⟨h, S.then_ hB⟩
theorem Load_two (S : Two w0 w p d bs q c cs) (at_ wd : Int) :
    Calls Try.prog 11 #[.pointer (some ⟨q, 0, none⟩), .int .i64 at_, .int .i64 wd] w fun e w' =>
      e = .returned (.tuple #[.int .u64 (ldA cs at_ wd), .int .i64 (nErr cs.length at_ wd)]) ∧ Two w0 w' p d bs q c cs :=
  (Load_any at_ wd w S.ar').mono fun _ _ ⟨h, hB⟩ => ⟨h, S.then_ hB⟩
theorem Store_one (S : Two w0 w p d bs q c cs) (at_ wd v : Int) (hv : 0 ≤ v) :
    Calls Try.prog 12 #[.pointer (some ⟨p, 0, none⟩), .int .i64 at_, .int .i64 wd, .int .u64 v] w fun e w' =>
      e = .returned (.int .i64 (nErr bs.length at_ wd)) ∧ Two w0 w' p d (stA bs at_ wd v) q c cs :=
  (Store_any at_ wd v w S.ar hv).mono fun _ _ ⟨h, hA, hg⟩ => ⟨h, ⟨grown_below S.kept.below hg S.new S.kept.below.size⟩, hA, S.ar'.grown hg S.ne3 (Ne.symm S.ne1), S.new, S.new', S.ne1, S.ne2, S.ne3⟩
theorem Store_two (S : Two w0 w p d bs q c cs) (at_ wd v : Int) (hv : 0 ≤ v) :
    Calls Try.prog 12 #[.pointer (some ⟨q, 0, none⟩), .int .i64 at_, .int .i64 wd, .int .u64 v] w fun e w' =>
      e = .returned (.int .i64 (nErr cs.length at_ wd)) ∧ Two w0 w' p d bs q c (stA cs at_ wd v) :=
  (Store_any at_ wd v w S.ar' hv).mono fun _ _ ⟨h, hA, hg⟩ => ⟨h, ⟨grown_below S.kept.below hg S.new' S.kept.below.size⟩, S.ar.grown hg S.ne2 S.ne1, hA, S.new, S.new', S.ne1, S.ne2, S.ne3⟩
theorem Bytes_one (S : Two w0 w p d bs q c cs) (at_ m : Int) (hm : m ≤ 9223372036854775807) :
    Calls Try.prog 13 #[.pointer (some ⟨p, 0, none⟩), .int .i64 at_, .int .i64 m] w fun e w' =>
      ∃ g, e = .returned (.tuple #[.slice (some ⟨g, 0, none⟩) (cutA bs at_ m).length (cutA bs at_ m).length, .int .i64 (rErr bs.length at_ m)]) ∧ Bk w' g (cutA bs at_ m) ∧ Two w0 w' p d bs q c cs :=
  (Bytes_any at_ m w S.ar hm).mono fun _ _ ⟨g, h, hk, hg, hB⟩ => ⟨g, h, hk, S.then_ hB⟩
end

theorem cutA_all (bs : List Int) (n : Int) (h : (bs.length : Int) = n) : cutA bs 0 n = bs ∧ rErr bs.length 0 n = 0 := by
  have e := rErr_ok (n := bs.length) (at_ := 0) (m := n) (by omega) (by omega) (by omega)
  refine ⟨?_, e⟩
  unfold cutA
  rw [if_pos e]
  unfold cutb
  rw [Int.toNat_zero, List.drop_zero, List.take_of_length_le (by omega)]

theorem ldA_stA8 {bs : List Int} {at_ v : Int} (h : nErr bs.length at_ 8 = 0) (h0 : 0 ≤ v) (h1 : v ≤ 18446744073709551615) : ldA (stA bs at_ 8 v) at_ 8 = v := by
  rw [ldA_stA h]
  exact Int.emod_eq_of_lt h0 (by show v < 18446744073709551616; omega)

theorem stA_eq {bs : List Int} {at_ wd v : Int} (h : nErr bs.length at_ wd = 0) : stA bs at_ wd v = stv bs at_.toNat v wd.toNat := by unfold stA; rw [if_pos h]

/-- Stores that don't overlap, in either order. -/
theorem stA_swap {bs : List Int} {at_ to v u : Int} (h : nErr bs.length at_ 8 = 0) (h' : nErr bs.length to 8 = 0) (hd : at_ - to ≥ 8 ∨ to - at_ ≥ 8) :
    stA (stA bs at_ 8 v) to 8 u = stA (stA bs to 8 u) at_ 8 v := by
  have ⟨_, a0, a1⟩ := nErr_zero h
  have ⟨_, b0, b1⟩ := nErr_zero h'
  have e1 : nErr (stA bs at_ 8 v).length to 8 = 0 := by rw [stA_length]; exact h'
  have e2 : nErr (stA bs to 8 u).length at_ 8 = 0 := by rw [stA_length]; exact h
  rw [stA_eq e1, stA_eq h, stA_eq e2, stA_eq h']
  show stv (stv bs at_.toNat v 8) to.toNat u 8 = stv (stv bs to.toNat u 8) at_.toNat v 8
  apply gb_ext
  · simp only [stv_length]
  · intro j hj
    unfold stv
    rw [gb_put, gb_put, gb_put, gb_put]
    simp only [put_length]
    by_cases c1 : to.toNat ≤ j ∧ j < to.toNat + 8 ∧ j < bs.length
    · rw [if_pos c1, if_neg (by omega), if_pos c1]
    · rw [if_neg c1]
      by_cases c2 : at_.toNat ≤ j ∧ j < at_.toNat + 8 ∧ j < bs.length
      · rw [if_pos c2, if_pos c2]
      · rw [if_neg c2, if_neg c2, if_neg c1]

set_option maxHeartbeats 1000000 in
theorem apart_bad1 (n at_ to v u : Int) (hn0 : 0 ≤ n) (hn1 : n ≤ 65535) (hv0 : 0 ≤ v) (hv1 : v ≤ 18446744073709551615) (hu0 : 0 ≤ u) (hu1 : u ≤ 18446744073709551615) (hE : ¬ nErr n at_ 8 = 0) (w : World) :
    Calls Try.prog 5 #[.int .u16 n, .int .i64 at_, .int .i64 to, .int .u64 v, .int .u64 u] w fun e w' => e = .returned (.bool true) ∧ Kept w w' := by
  have hlen : (zeros n.toNat).length = n.toNat := zeros_length _
  have hln : ((zeros n.toNat).length : Int) = n := by rw [hlen]; omega
  have HL := Lib.hid hln
  have HV := Lib.hid hv1
  have HU := Lib.hid hu1
  clear hln hlen hv1 hu1
  have hb : (nErr n at_ 8 != 0) = true := by rw [bne_iff_ne]; exact hE
  clear hE
  go_enter Try.func5, Try.ntmps5
  go_wp2_with fail
  refine (shown_calls _).mono ?_
  rintro e w1 ⟨rfl, K1⟩
  go_wp2_with fail
  refine (New_st K1 n (by omega) (by omega)).mono ?_
  rintro e w2 ⟨p, d, rfl, S2⟩
  go_wp2_with fail
  refine (New_two S2 n (by omega) (by omega)).mono ?_
  rintro e w3 ⟨q, c, rfl, S3⟩
  go_wp2_with fail
  refine (Store_one S3 at_ 8 v hv0).mono ?_
  rintro e w4 ⟨rfl, S4⟩
  rw [HL.out]
  go_wp2_with fail
  refine (Store_one S4 to 8 u hu0).mono ?_
  rintro e w5 ⟨rfl, S5⟩
  rw [stA_length, HL.out]
  go_wp2_with fail
  refine (Store_two S5 to 8 u hu0).mono ?_
  rintro e w6 ⟨rfl, S6⟩
  rw [HL.out]
  go_wp2_with fail
  refine (Store_two S6 at_ 8 v hv0).mono ?_
  rintro e w7 ⟨rfl, S7⟩
  rw [stA_length, HL.out]
  go_wp2
  go_ret
  exact ⟨rfl, S7.kept⟩

set_option maxHeartbeats 1000000 in
theorem apart_bad2 (n at_ to v u : Int) (hn0 : 0 ≤ n) (hn1 : n ≤ 65535) (hv0 : 0 ≤ v) (hv1 : v ≤ 18446744073709551615) (hu0 : 0 ≤ u) (hu1 : u ≤ 18446744073709551615) (hE : nErr n at_ 8 = 0) (hE' : ¬ nErr n to 8 = 0) (w : World) :
    Calls Try.prog 5 #[.int .u16 n, .int .i64 at_, .int .i64 to, .int .u64 v, .int .u64 u] w fun e w' => e = .returned (.bool true) ∧ Kept w w' := by
  have hlen : (zeros n.toNat).length = n.toNat := zeros_length _
  have hln : ((zeros n.toNat).length : Int) = n := by rw [hlen]; omega
  have HL := Lib.hid hln
  have HV := Lib.hid hv1
  have HU := Lib.hid hu1
  clear hln hlen hv1 hu1
  have hb : (nErr n to 8 != 0) = true := by rw [bne_iff_ne]; exact hE'
  have HE := Lib.hid (show nErr ((zeros n.toNat).length : Int) at_ 8 = 0 by rw [HL.out]; exact hE)
  clear hE hE'
  go_enter Try.func5, Try.ntmps5
  go_wp2_with fail
  refine (shown_calls _).mono ?_
  rintro e w1 ⟨rfl, K1⟩
  go_wp2_with fail
  refine (New_st K1 n (by omega) (by omega)).mono ?_
  rintro e w2 ⟨p, d, rfl, S2⟩
  go_wp2_with fail
  refine (New_two S2 n (by omega) (by omega)).mono ?_
  rintro e w3 ⟨q, c, rfl, S3⟩
  go_wp2_with fail
  refine (Store_one S3 at_ 8 v hv0).mono ?_
  rintro e w4 ⟨rfl, S4⟩
  rw [HE.out]
  go_wp2_with fail
  refine (Store_one S4 to 8 u hu0).mono ?_
  rintro e w5 ⟨rfl, S5⟩
  rw [stA_length, HL.out]
  go_wp2_with fail
  refine (Store_two S5 to 8 u hu0).mono ?_
  rintro e w6 ⟨rfl, S6⟩
  rw [HL.out]
  go_wp2_with fail
  refine (Store_two S6 at_ 8 v hv0).mono ?_
  rintro e w7 ⟨rfl, S7⟩
  rw [stA_length, HE.out]
  go_wp2
  go_ret
  exact ⟨rfl, S7.kept⟩

set_option maxHeartbeats 1000000 in
theorem apart_over (n at_ to v u : Int) (hn0 : 0 ≤ n) (hn1 : n ≤ 65535) (hv0 : 0 ≤ v) (hv1 : v ≤ 18446744073709551615) (hu0 : 0 ≤ u) (hu1 : u ≤ 18446744073709551615) (hE : nErr n at_ 8 = 0) (hE' : nErr n to 8 = 0) (hd : ¬ (at_ - to ≥ 8 ∨ to - at_ ≥ 8)) (w : World) :
    Calls Try.prog 5 #[.int .u16 n, .int .i64 at_, .int .i64 to, .int .u64 v, .int .u64 u] w fun e w' => e = .returned (.bool true) ∧ Kept w w' := by
  have hlen : (zeros n.toNat).length = n.toNat := zeros_length _
  have hln : ((zeros n.toNat).length : Int) = n := by rw [hlen]; omega
  have HL := Lib.hid hln
  have HV := Lib.hid hv1
  have HU := Lib.hid hu1
  clear hln hlen hv1 hu1
  have HE := Lib.hid (show nErr ((zeros n.toNat).length : Int) at_ 8 = 0 by rw [HL.out]; exact hE)
  have HE' := Lib.hid (show nErr ((zeros n.toNat).length : Int) to 8 = 0 by rw [HL.out]; exact hE')
  have ⟨hw, ha0, ha1⟩ := nErr_zero hE
  have ⟨hw', hc0, hc1⟩ := nErr_zero hE'
  clear hE hE' hw hw'
  have hd1 : at_ - to < 8 := by omega
  have hd2 : to - at_ < 8 := by omega
  clear hd
  go_enter Try.func5, Try.ntmps5
  go_wp2_with fail
  refine (shown_calls _).mono ?_
  rintro e w1 ⟨rfl, K1⟩
  go_wp2_with fail
  refine (New_st K1 n (by omega) (by omega)).mono ?_
  rintro e w2 ⟨p, d, rfl, S2⟩
  go_wp2_with fail
  refine (New_two S2 n (by omega) (by omega)).mono ?_
  rintro e w3 ⟨q, c, rfl, S3⟩
  go_wp2_with fail
  refine (Store_one S3 at_ 8 v hv0).mono ?_
  rintro e w4 ⟨rfl, S4⟩
  rw [HE.out]
  go_wp2_with fail
  refine (Store_one S4 to 8 u hu0).mono ?_
  rintro e w5 ⟨rfl, S5⟩
  rw [stA_length, HE'.out]
  go_wp2_with fail
  refine (Store_two S5 to 8 u hu0).mono ?_
  rintro e w6 ⟨rfl, S6⟩
  rw [HE'.out]
  go_wp2_with fail
  refine (Store_two S6 at_ 8 v hv0).mono ?_
  rintro e w7 ⟨rfl, S7⟩
  rw [stA_length, HE.out]
  go_wp2_with fail
  refine (Load_one S7 to 8).mono ?_
  rintro e w8 ⟨rfl, S8⟩
  rw [ldA_stA8 (by rw [stA_length]; exact HE'.out) hu0 HU.out]
  go_wp2_with fail
  refine (Load_two S8 at_ 8).mono ?_
  rintro e w9 ⟨rfl, S9⟩
  rw [ldA_stA8 (by rw [stA_length]; exact HE.out) hv0 HV.out]
  go_wp2
  go_ret
  exact ⟨rfl, S9.kept⟩

set_option maxHeartbeats 1000000 in
theorem apart_ok (n at_ to v u : Int) (hn0 : 0 ≤ n) (hn1 : n ≤ 65535) (hv0 : 0 ≤ v) (hv1 : v ≤ 18446744073709551615) (hu0 : 0 ≤ u) (hu1 : u ≤ 18446744073709551615) (hE : nErr n at_ 8 = 0) (hE' : nErr n to 8 = 0) (hd : at_ - to ≥ 8 ∨ to - at_ ≥ 8) (w : World) :
    Calls Try.prog 5 #[.int .u16 n, .int .i64 at_, .int .i64 to, .int .u64 v, .int .u64 u] w fun e w' => e = .returned (.bool true) ∧ Kept w w' := by
  have hlen : (zeros n.toNat).length = n.toNat := zeros_length _
  have hln : ((zeros n.toNat).length : Int) = n := by rw [hlen]; omega
  have HL := Lib.hid hln
  have HV := Lib.hid hv1
  have HU := Lib.hid hu1
  clear hln hlen hv1 hu1
  have HE := Lib.hid (show nErr ((zeros n.toNat).length : Int) at_ 8 = 0 by rw [HL.out]; exact hE)
  have HE' := Lib.hid (show nErr ((zeros n.toNat).length : Int) to 8 = 0 by rw [HL.out]; exact hE')
  have ⟨hw, ha0, ha1⟩ := nErr_zero hE
  have ⟨hw', hc0, hc1⟩ := nErr_zero hE'
  clear hE hE' hw hw'
  have HD := Lib.hid hd
  have hdb : (decide (8 ≤ at_ - to) || decide (8 ≤ to - at_)) = true := by rw [Bool.or_eq_true, decide_eq_true_eq, decide_eq_true_eq]; exact hd
  clear hd
  go_enter Try.func5, Try.ntmps5
  go_wp2_with fail
  refine (shown_calls _).mono ?_
  rintro e w1 ⟨rfl, K1⟩
  go_wp2_with fail
  refine (New_st K1 n (by omega) (by omega)).mono ?_
  rintro e w2 ⟨p, d, rfl, S2⟩
  go_wp2_with fail
  refine (New_two S2 n (by omega) (by omega)).mono ?_
  rintro e w3 ⟨q, c, rfl, S3⟩
  go_wp2_with fail
  refine (Store_one S3 at_ 8 v hv0).mono ?_
  rintro e w4 ⟨rfl, S4⟩
  rw [HE.out]
  go_wp2_with fail
  refine (Store_one S4 to 8 u hu0).mono ?_
  rintro e w5 ⟨rfl, S5⟩
  rw [stA_length, HE'.out]
  go_wp2_with fail
  refine (Store_two S5 to 8 u hu0).mono ?_
  rintro e w6 ⟨rfl, S6⟩
  rw [HE'.out]
  go_wp2_with fail
  refine (Store_two S6 at_ 8 v hv0).mono ?_
  rintro e w7 ⟨rfl, S7⟩
  rw [stA_length, HE.out]
  rw [stA_swap HE.out HE'.out HD.out] at S7
  go_wp2_with fail
  refine (Load_one S7 to 8).mono ?_
  rintro e w8 ⟨rfl, S8⟩
  rw [← stA_swap HE.out HE'.out HD.out, ldA_stA8 (by rw [stA_length]; exact HE'.out) hu0 HU.out]
  go_wp2_with fail
  refine (Load_two S8 at_ 8).mono ?_
  rintro e w9 ⟨rfl, S9⟩
  rw [ldA_stA8 (by rw [stA_length]; exact HE.out) hv0 HV.out]
  have ⟨e1, e2⟩ := cutA_all (stA (stA (zeros n.toNat) to 8 u) at_ 8 v) n (by rw [stA_length, stA_length]; exact HL.out)
  have E1 := Lib.hid e1
  have E2 := Lib.hid e2
  clear e1 e2
  generalize (stA (stA (zeros n.toNat) to 8 u) at_ 8 v) = X at *
  go_wp2_with fail
  all_goals
    refine (Bytes_one S9 0 n (by omega)).mono ?_
    rintro e w10 ⟨g, rfl, hk10, S10⟩
    rw [E1.out] at hk10
    rw [E1.out, E2.out]
    have K10 := Lib.hid hk10
    clear hk10
    go_wp2_with fail
    refine (Bytes_any 0 n _ S10.ar' (by omega)).mono ?_
    rintro e w11 ⟨g', rfl, hk11, _, hB11⟩
    rw [E1.out] at hk11
    rw [E1.out, E2.out]
    have K11 := Lib.hid hk11
    have K10' := Lib.hid (K10.out.below hB11)
    have S11 := S10.then_ hB11
    clear hk11 hB11
    have hc1 := K10'.out.text X.length
    have hc2 := K11.out.text X.length
    go_wp2
    go_ret
    exact ⟨rfl, S11.kept⟩

theorem ArenaApart_calls (n at_ to v u : Int) (hn0 : 0 ≤ n) (hn1 : n ≤ 65535) (hv0 : 0 ≤ v) (hv1 : v ≤ 18446744073709551615) (hu0 : 0 ≤ u) (hu1 : u ≤ 18446744073709551615) (w : World) :
    Calls Try.prog 5 #[.int .u16 n, .int .i64 at_, .int .i64 to, .int .u64 v, .int .u64 u] w fun e w' => e = .returned (.bool true) ∧ Kept w w' := by
  by_cases hE : nErr n at_ 8 = 0
  · by_cases hE' : nErr n to 8 = 0
    · by_cases hd : at_ - to ≥ 8 ∨ to - at_ ≥ 8
      · exact apart_ok n at_ to v u hn0 hn1 hv0 hv1 hu0 hu1 hE hE' hd w
      · exact apart_over n at_ to v u hn0 hn1 hv0 hv1 hu0 hu1 hE hE' hd w
    · exact apart_bad2 n at_ to v u hn0 hn1 hv0 hv1 hu0 hu1 hE hE' w
  · exact apart_bad1 n at_ to v u hn0 hn1 hv0 hv1 hu0 hu1 hE w
end Go.Proofs.Ytdanncfnndcbbaa
