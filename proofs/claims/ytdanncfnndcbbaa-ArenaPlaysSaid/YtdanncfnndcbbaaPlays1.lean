/- ArenaPlays: whatever is done with an arena of any size, it answers what the document says. -/
import Derived.Test.YtdanncfnndcbbaaPlays0
import Derived.Test.YtdanncfnndcbbaaCol
import Derived.Test.YtdanncfnndcbbaaPost
set_option linter.unusedVariables false
set_option linter.unusedSimpArgs false
namespace Go.Proofs.Ytdanncfnndcbbaa.Ref
open Go.RowKit Go.Proofs.YtdanncfnndcbbaaW.PrintWords Go.Proofs.Ytdanncfnndcbbaa.PArenaPlays
open Go.Proofs.Ytdanncfnndcbbaa (WOk nErr rErr ldA stA fillA cutA cutb ldv stv put gb byteOf put_length gb_put gb_ext One Ar Bk ret_bool shown_calls New_st New_bad Load_st Store_st Fill_st Bytes_st Len_st zeros zeros_length stA_length fillA_length cutA_full ColI bd_i64 bd_u64 Load_any Store_any Fill_any Bytes_any grown_below info_u8 madeCells_u8 rErr_zero)

theorem u8_i : ∃ i, Try.prog.info? 5 = some i ∧ i.size = 1 := by
  obtain ⟨i, hi, _, hz, _⟩ := info_parts info_u8
  exact ⟨i, hi, hz⟩

/-- The reference's Bytes: a text of what it answers. -/
theorem Bytes_ref {bs : List Int} {A : Option Addr} {c : Nat} (at_ m : Int) (w : World) (hr : Kd.C (Kd.int .u8) w A bs.length bs) (hc : bs.length ≤ c) (hl : bs.length ≤ 65536) (hm : m ≤ 9223372036854775807) :
    Calls Try.prog 19 #[.slice A bs.length c, .int .i64 at_, .int .i64 m] w fun e w' =>
      ∃ (A' : Option Addr) (l' c' : Nat), e = .returned (.tuple #[.slice A' l' c', .int .i64 (rErr bs.length at_ m)]) ∧ (convert 34 9 (.slice A' l' c')).run Try.prog w' = .ok (.string (strOfNums (cutA bs at_ m))) w' ∧ Below w.heap.size w w' := by
  have HR := Lib.hid hr
  have HF := Lib.hid (Fits_eq bs.length hl at_ m hm)
  clear hr
  by_cases he : rErr bs.length at_ m = 0
  · have ⟨hm0, h0, h1⟩ := rErr_zero he
    have HE := Lib.hid he
    rw [he]
    obtain ⟨i, hi, hz⟩ := u8_i
    have hcut := cut_mid (P := Try.prog) 34 5 .i64 .i64 Try.underlying34 hi 1 hz A bs.length c at_ (at_ + m) h0 (by omega) (by omega) hc
    generalize hA' : (if c = at_.toNat then A else A.map (·.add (at_.toNat * 1))) = A' at hcut
    have HA' := Lib.hid hA'
    clear he hi hz hA'
    go_enter Try.func19, Try.ntmps19
    go_wp2_with fail
    refine (turnbuckleref01_Fits.calls _ _ _ _ _ HF.out).mono ?_
    rintro e w1 ⟨rfl, hD⟩
    have HB := Lib.hid hD.below
    clear hD
    rw [HE.out]
    go_wp2
    go_ret2
    refine ⟨_, _, _, rfl, ?_, HB.out⟩
    have hC := Kd.C_mid (c := c) (lo := at_.toNat) (hi := (at_ + m).toNat) (Kd.C_below HR.out HB.out) (by omega) (by omega) hc
    have e : (bs.take (at_ + m).toNat).drop at_.toNat = cutA bs at_ m := by
      unfold cutA
      rw [if_pos HE.out]
      unfold cutb
      rw [List.drop_take]
      congr 1
      omega
    have hl' : (cutA bs at_ m).length = (at_ + m).toNat - at_.toNat := by rw [← e]; simp; omega
    rw [e, hl', show (Kd.int IntKind.u8).sz = 1 from rfl, HA'.out] at hC
    exact Kd.C_string Try.underlying34 Try.underlying5 Try.underlying9 hC
  · have hb : (rErr bs.length at_ m != 0) = true := by rw [bne_iff_ne]; exact he
    have HE := Lib.hid he
    clear he
    go_enter Try.func19, Try.ntmps19
    go_wp2_with fail
    refine (turnbuckleref01_Fits.calls _ _ _ _ _ HF.out).mono ?_
    rintro e w1 ⟨rfl, hD⟩
    have HB := Lib.hid hD.below
    clear hD
    go_wp2
    go_ret2
    refine ⟨none, 0, 0, rfl, ?_, HB.out⟩
    unfold cutA
    rw [if_neg HE.out]
    exact run_convert_bytes_nil _ 34 5 Try.underlying34 Try.underlying5 0 0 _ Try.underlying9

set_option maxRecDepth 100000 in
set_option maxHeartbeats 1000000 in
theorem plays_bad (n : Int) (A : Option Addr) (len cap : Nat) (w : World) (h : n < 0 ∨ 65536 < n) :
    Calls Try.prog 6 #[.int .i64 n, .slice A len cap] w fun e w' => e = .returned (.bool true) ∧ Go.Proofs.Ytdanncfnndcbbaa.Kept w w' := by
  have HN := Lib.hid h
  have hb : (decide (n < 0) || decide (65536 < n)) = true := by rw [Bool.or_eq_true, decide_eq_true_eq, decide_eq_true_eq]; exact h
  clear h
  go_enter Try.func6, Try.ntmps6
  go_wp2_with fail
  refine (shown_calls _).mono ?_
  rintro e w1 ⟨rfl, K1⟩
  go_wp2_with fail
  refine (New_bad n _ HN.out).mono ?_
  rintro e w2 ⟨rfl, rfl⟩
  go_wp2
  all_goals (go_ret; exact ⟨rfl, K1⟩)

/-- The deeds, column by column. -/
structure Deeds (w : World) (A : Option Addr) (len : Nat) (fk fa fn fv : Nat → Int) : Prop where
  k : ColI w A len 4 0 .i64 fk
  a : ColI w A len 4 1 .i64 fa
  n : ColI w A len 4 2 .i64 fn
  v : ColI w A len 4 3 .u64 fv
theorem Deeds.below {w w1 : World} {A : Option Addr} {len : Nat} {fk fa fn fv : Nat → Int} (h : Deeds w A len fk fa fn fv) (hb : Below w.heap.size w w1) : Deeds w1 A len fk fa fn fv :=
  ⟨h.k.below hb, h.a.below hb, h.n.below hb, h.v.below hb⟩

theorem add_of_add (a : Addr) (i j : Nat) : (a.add i).add j = a.add (i + j) := by
  unfold Addr.add
  by_cases hi : i = 0 <;> by_cases hj : j = 0 <;> simp [hi, hj, Nat.add_assoc]

theorem add_none (a : Addr) : a.add 0 = a := rfl
theorem add_some (a : Addr) (j : Nat) : a.add (j + 1) = ⟨a.block, a.off + (j + 1), none⟩ := rfl

/-- The deed that a round looks at, in a block of its own. -/
def BX (w : World) (X : Nat) (k a n v : Int) : Prop := w.heap[X]? = some (.cells #[.int .i64 k, .int .i64 a, .int .i64 n, .int .u64 v] 41 (0, 0))
theorem BX.new (w : World) (k a n v : Int) : BX (w.alloc (.cells #[.int .i64 k, .int .i64 a, .int .i64 n, .int .u64 v] 41)) w.heap.size k a n v := heap_alloc_new w _
theorem BX.lt {w : World} {X : Nat} {k a n v : Int} (h : BX w X k a n v) : X < w.heap.size := by
  rcases Nat.lt_or_ge X w.heap.size with hlt | hge
  · exact hlt
  · unfold BX at h; rw [Array.getElem?_eq_none hge] at h; cases h
theorem BX.below {w w1 : World} {X : Nat} {k a n v : Int} (h : BX w X k a n v) (hb : Below w.heap.size w w1) : BX w1 X k a n v := (hb.block X h.lt).trans h
theorem BX.grown {w w1 : World} {X : Nat} {k a n v : Int} (h : BX w X k a n v) {g : Nat} (hg : w.grownBy w1 (some g)) (hne : X ≠ g) : BX w1 X k a n v := (hg.block X h.lt (fun e => hne (by injection e))).trans h
theorem BX.at1 {w : World} {X : Nat} {k a n v : Int} (h : BX w X k a n v) : w.cell? ⟨X, 1, none⟩ = some (.int .i64 a) := by rw [cell_of_row w X 1 _ _ _ h]; rfl
theorem BX.at2 {w : World} {X : Nat} {k a n v : Int} (h : BX w X k a n v) : w.cell? ⟨X, 2, none⟩ = some (.int .i64 n) := by rw [cell_of_row w X 2 _ _ _ h]; rfl
theorem BX.at3 {w : World} {X : Nat} {k a n v : Int} (h : BX w X k a n v) : w.cell? ⟨X, 3, none⟩ = some (.int .u64 v) := by rw [cell_of_row w X 3 _ _ _ h]; rfl

theorem ar_kept {w w1 : World} {p d : Nat} {bs : List Int} (h : Ar w p d bs) (hk : Go.Proofs.YtdanncfnndcbbaaW.PrintWords.Kept w w1 (fun k => k ≠ p ∧ k ≠ d)) : Ar w1 p d bs :=
  ⟨(hk.2 p h.lt.1 (fun e => e.1 rfl)).trans h.hdr, (hk.2 d h.lt.2 (fun e => e.2 rfl)).trans h.row, h.ne, h.len, h.rng⟩
theorem row_kept {w w1 : World} {p d base : Nat} {bs xs : List Int} {v : Value} (h : Ar w p d bs) (hr : Kd.R (Kd.int .u8) 5 w1 base (fun k => ((k ≠ p ∧ k ≠ d) ∨ w.heap.size ≤ k)) v xs) : Kd.R (Kd.int .u8) 5 w1 base (fun k => k ≠ p ∧ k ≠ d) v xs :=
  Kd.R_mono hr (fun k hk => by have := h.lt; rcases hk with hk | hk; exact hk; constructor <;> omega)

/-- What a round leaves to the next one. -/
structure Rnd (w0 w : World) (p d N : Nat) (v : Value) (bs : List Int) : Prop where
  one : One w0 w p d bs
  row : Kd.R (Kd.int .u8) 5 w w0.heap.size (fun k => k ≠ p ∧ k ≠ d) v bs
  len : bs.length = N
  deeds : True

set_option maxRecDepth 100000 in
set_option maxHeartbeats 2000000 in
theorem plays_ok (N : Nat) (A : Option Addr) (len cap : Nat) (fk fa fn fv : Nat → Int) (w : World) (hN : N ≤ 65536) (hlen : len ≤ 9223372036854775807) (hD : Deeds w A len fk fa fn fv) :
    Calls Try.prog 6 #[.int .i64 (N : Int), .slice A len cap] w fun e w' => e = .returned (.bool true) ∧ Go.Proofs.Ytdanncfnndcbbaa.Kept w w' := by
  have HD := Lib.hid hD
  have hl : (zeros N).length = N := zeros_length _
  have HL := Lib.hid hl
  have hmk := fun W => run_make_row' (P := Try.prog) 34 5 (.int .u8 0) 1 Try.underlying34 info_u8 rfl .i64 .i64 N (by omega) (by omega) W
  clear hD hl
  go_enter Try.func6, Try.ntmps6
  go_wp2_with fail
  refine (shown_calls _).mono ?_
  rintro e w1 ⟨rfl, K1⟩
  go_wp2_with fail
  refine (New_st K1 (N : Int) (by omega) (by omega)).mono ?_
  rintro e w2 ⟨p, d, rfl, S2⟩
  rw [Int.toNat_natCast] at S2
  go_wp2_with fail
  refine (Len_st S2).mono ?_
  rintro e w3 ⟨rfl, S3⟩
  rw [HL.out]
  go_wp2_with fail
  clear hmk
  have S4 : Rnd w (w3.alloc (.cells (madeCells #[.int .u8 0] N) 5)) p d N (.slice (some ⟨w3.heap.size, 0, none⟩) N N) (zeros N) := by
    refine ⟨S3.then_ ((Below.refl _ _).alloc (Nat.le_refl _) _), ?_, HL.out, trivial⟩
    have hlt := S3.ar.lt
    have ho := World.ownsRow_lit w3 (madeCells #[Value.int .u8 0] N) N (e := 5) (base := w.heap.size) (size := 1) S3.kept.below.size (by unfold maxLen; omega) (by rw [size_madeCells]; omega)
    rw [madeCells_u8] at ho ⊢
    refine Kd.R_of_own (by rw [HL.out]; exact ho) ?_
    intro k hk
    simp [Value.ownBlock] at hk
    omega
  have HS4 := Lib.hid S4
  clear S4 S3 S2
  go_loopw [8, 9] (fun v i wr => ∃ (k : Nat) (bs : List Int), k ≤ 60 ∧ k ≤ len ∧ i = .int .i64 k ∧ Rnd w wr p d N v bs) (fun _ i _ => 60 - (intOf i).toNat)
  case atStart => exact ⟨0, zeros N, by omega, by omega, rfl, HS4.out⟩
  case round =>
    obtain ⟨k, bs, hk, hk2, rfl, hS⟩ := hrel
    obtain ⟨A8, c8, rfl, hc8, hC8⟩ := Kd.R_reads hS.row
    have hlen' := hS.len
    have HLN := Lib.hid hlen'
    have hbl : bs.length ≤ 65536 := by omega
    have HS := Lib.hid hS
    have HC8 := Lib.hid hC8
    clear hS hC8 hlen'
    by_cases hlt : k < len ∧ k < 60
    · obtain ⟨hlt1, hlt2⟩ := hlt
      have D := HD.out.below HS.out.one.kept.below
      obtain ⟨ad, rfl, hadl, hck, hwk⟩ := D.k k hlt1
      obtain ⟨ad', ead, _, hca, hwa⟩ := D.a k hlt1
      obtain rfl : ad = ad' := by injection ead
      obtain ⟨ad', ead, _, hcn, hwn⟩ := D.n k hlt1
      obtain rfl : ad = ad' := by injection ead
      obtain ⟨ad', ead, _, hcv, hwv⟩ := D.v k hlt1
      obtain rfl : ad = ad' := by injection ead
      clear ead D
      rw [← add_of_add] at hck hca hcn hcv
      rw [add_none] at hck
      rw [add_some] at hca hcn hcv
      generalize fk k = K at *
      generalize fa k = a at *
      generalize fn k = n at *
      generalize fv k = v at *
      have hx := BX.new wr K a n v
      have HX := Lib.hid hx
      clear hx
      have hW5 := (Below.refl _ wr).alloc (Nat.le_refl _) (.cells #[.int .i64 K, .int .i64 a, .int .i64 n, .int .u64 v] 41)
      have SA := Lib.hid (HS.out.one.then_ hW5)
      have RA := Lib.hid (Kd.R_below HS.out.row hW5)
      have CA := Lib.hid (Kd.C_below HC8.out hW5)
      have hX1 : wr.heap.size ≠ d := by have := HS.out.one.ar.lt; omega
      have hX2 : wr.heap.size ≠ p := by have := HS.out.one.ar.lt; omega
      have hn1 := (bd_i64 hwn).2
      have hv0 := (bd_u64 hwv).1
      have hv1 := Lib.hid (bd_u64 hwv).2
      clear hW5 hwk hwa hwn hwv
      by_cases h0 : K = 0
      · subst h0
        go_wp2_with fail
        refine (Load_any a n _ SA.out.ar).mono ?_
        rintro e w6 ⟨rfl, hB6⟩
        have h1 := (HX.out.below hB6).at1
        have h2 := (HX.out.below hB6).at2
        have S6 := Lib.hid (SA.out.then_ hB6)
        have R6 := Lib.hid (Kd.R_below RA.out hB6)
        have C6 := Lib.hid (Kd.C_below CA.out hB6)
        clear hB6
        go_wp2_with fail
        refine (turnbuckleref01_Load.calls 10 A8 c8 bs a n _ _ _ C6.out hc8 (Load_eq bs HS.out.one.ar.rng hbl a n 10 (by omega))).mono ?_
        rintro e w7 ⟨rfl, hD7⟩
        have S7 := Lib.hid (S6.out.then_ hD7.below)
        have R7 := Lib.hid (Kd.R_below R6.out hD7.below)
        clear hD7
        go_wp2
        go_roundw
        case rel => exact ⟨k + 1, bs, by omega, by omega, by go_num, ⟨S7.out, R7.out, HLN.out, trivial⟩⟩
        case measure => simp [intOf]; omega
      by_cases h1 : K = 1
      · subst h1
        go_wp2_with fail
        refine (Store_any a n v _ SA.out.ar hv0).mono ?_
        rintro e w6 ⟨rfl, hA6, hg6⟩
        have h1 := (HX.out.grown hg6 hX1).at1
        have h2 := (HX.out.grown hg6 hX1).at2
        have h3 := (HX.out.grown hg6 hX1).at3
        have K6 := Lib.hid (grown_below SA.out.kept.below hg6 SA.out.new SA.out.kept.below.size)
        have A6 := Lib.hid hA6
        have R6 := Lib.hid (Kd.R_grown RA.out hg6 (fun k hk e => hk.2 (by injection e)))
        clear hA6 hg6
        go_wp2_with fail
        refine (turnbuckleref01_Store.calls 31 (fun k => k ≠ p ∧ k ≠ d) (.slice A8 bs.length c8) bs a n v _ _ w _ K6.out R6.out (Store_eq bs hbl a n v hv0 hv1.out 31 (by omega))).mono ?_
        rintro e w7 ⟨v7, rfl, hR7, hB7, hK7⟩
        have A7 := Lib.hid (ar_kept A6.out hK7)
        have R7 := Lib.hid (row_kept A6.out hR7)
        have B7 := Lib.hid hB7
        clear hR7 hB7 hK7
        go_wp2
        go_roundw
        case rel => exact ⟨k + 1, stA bs a n v, by omega, by omega, by go_num, ⟨⟨⟨B7.out⟩, A7.out, HS.out.one.new⟩, R7.out, by rw [stA_length]; exact HLN.out, trivial⟩⟩
        case measure => simp [intOf]; omega
      by_cases h2 : K = 2
      · subst h2
        have hc0 : 0 ≤ v % 256 := by omega
        have hc1 : v % 256 ≤ 255 := by omega
        go_wp2_with fail
        refine (Fill_any a n (v % 256) _ SA.out.ar hn1 hc0 hc1).mono ?_
        rintro e w6 ⟨rfl, hA6, hg6⟩
        have h1 := (HX.out.grown hg6 hX1).at1
        have h2 := (HX.out.grown hg6 hX1).at2
        have h3 := (HX.out.grown hg6 hX1).at3
        have K6 := Lib.hid (grown_below SA.out.kept.below hg6 SA.out.new SA.out.kept.below.size)
        have A6 := Lib.hid hA6
        have R6 := Lib.hid (Kd.R_grown RA.out hg6 (fun k hk e => hk.2 (by injection e)))
        clear hA6 hg6
        go_wp2_with fail
        refine (turnbuckleref01_Fill.calls 200001 (fun k => k ≠ p ∧ k ≠ d) (.slice A8 bs.length c8) bs a n (v % 256) _ _ w _ K6.out R6.out (Fill_eq bs hbl a n (v % 256) hn1 200001 (by omega))).mono ?_
        rintro e w7 ⟨v7, rfl, hR7, hB7, hK7⟩
        have A7 := Lib.hid (ar_kept A6.out hK7)
        have R7 := Lib.hid (row_kept A6.out hR7)
        have B7 := Lib.hid hB7
        clear hR7 hB7 hK7
        go_wp2
        go_roundw
        case rel => exact ⟨k + 1, fillA bs a n (v % 256), by omega, by omega, by go_num, ⟨⟨⟨B7.out⟩, A7.out, HS.out.one.new⟩, R7.out, by rw [fillA_length]; exact HLN.out, trivial⟩⟩
        case measure => simp [intOf]; omega
      · have hk0 : (K == 0) = false := beq_eq_false_iff_ne.2 h0
        have hk1 : (K == 1) = false := beq_eq_false_iff_ne.2 h1
        have hk2' : (K == 2) = false := beq_eq_false_iff_ne.2 h2
        go_wp2_with fail
        refine (Bytes_any a n _ SA.out.ar hn1).mono ?_
        rintro e w6 ⟨g6, rfl, hk6, _, hB6⟩
        have h1 := (HX.out.below hB6).at1
        have h2 := (HX.out.below hB6).at2
        have S6 := Lib.hid (SA.out.then_ hB6)
        have R6 := Lib.hid (Kd.R_below RA.out hB6)
        have C6 := Lib.hid (Kd.C_below CA.out hB6)
        have G6 := Lib.hid hk6
        clear hB6 hk6
        go_wp2_with fail
        refine (Bytes_ref a n _ C6.out hc8 hbl hn1).mono ?_
        rintro e w7 ⟨A7, l7, c7, rfl, hs7, hB7⟩
        have hs6 := (G6.out.below hB7).text (cutA bs a n).length
        have S7 := Lib.hid (S6.out.then_ hB7)
        have R7 := Lib.hid (Kd.R_below R6.out hB7)
        clear hB7
        go_wp2
        go_roundw
        case rel => exact ⟨k + 1, bs, by omega, by omega, by go_num, ⟨S7.out, R7.out, HLN.out, trivial⟩⟩
        case measure => simp [intOf]; omega
    · have hs := Lib.hid (Kd.C_string (c := c8) Try.underlying34 Try.underlying5 Try.underlying9 HC8.out)
      have ⟨e1, e2⟩ := cutA_full bs N (by rw [HLN.out])
      have E1 := Lib.hid e1
      have E2 := Lib.hid e2
      clear e1 e2
      by_cases hl1 : k < len
      · have hl2 : ¬ k < 60 := fun h => hlt ⟨hl1, h⟩
        clear hlt
        go_wp2_with fail
        refine (Bytes_any 0 (N : Int) _ HS.out.one.ar (by omega)).mono ?_
        rintro e w6 ⟨g6, rfl, hk6, _, hB6⟩
        have C6 := Kd.C_string (c := c8) Try.underlying34 Try.underlying5 Try.underlying9 (Kd.C_below HC8.out hB6)
        have S6 := Lib.hid (HS.out.one.then_ hB6)
        rw [E1.out] at hk6
        rw [E1.out, E2.out]
        have hs6 := hk6.text bs.length
        clear hB6 hk6
        go_wp2
        go_ret
        exact ⟨rfl, S6.out.kept⟩
      · clear hlt
        go_wp2_with fail
        refine (Bytes_any 0 (N : Int) _ HS.out.one.ar (by omega)).mono ?_
        rintro e w6 ⟨g6, rfl, hk6, _, hB6⟩
        have C6 := Kd.C_string (c := c8) Try.underlying34 Try.underlying5 Try.underlying9 (Kd.C_below HC8.out hB6)
        have S6 := Lib.hid (HS.out.one.then_ hB6)
        rw [E1.out] at hk6
        rw [E1.out, E2.out]
        have hs6 := hk6.text bs.length
        clear hB6 hk6
        go_wp2
        go_ret
        exact ⟨rfl, S6.out.kept⟩

theorem ArenaPlays_calls (n : Int) (A : Option Addr) (len cap : Nat) (fk fa fn fv : Nat → Int) (w : World) (hlen : len ≤ maxLen) (c0 : ColI w A len 4 0 .i64 fk) (c1 : ColI w A len 4 1 .i64 fa) (c2 : ColI w A len 4 2 .i64 fn) (c3 : ColI w A len 4 3 .u64 fv) :
    Calls Try.prog 6 #[.int .i64 n, .slice A len cap] w fun e w' => e = .returned (.bool true) ∧ Go.Proofs.Ytdanncfnndcbbaa.Kept w w' := by
  by_cases h : n < 0 ∨ 65536 < n
  · exact plays_bad n A len cap w h
  · obtain ⟨N, rfl⟩ := Int.eq_ofNat_of_zero_le (show 0 ≤ n by omega)
    exact plays_ok N A len cap fk fa fn fv w (by omega) (by unfold maxLen at hlen; omega) ⟨c0, c1, c2, c3⟩
end Go.Proofs.Ytdanncfnndcbbaa.Ref
