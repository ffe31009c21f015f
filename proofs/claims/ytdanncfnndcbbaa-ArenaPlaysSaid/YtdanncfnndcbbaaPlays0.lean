/- The reference of layer 1, as printed: what it answers, in the arena's own words. -/
import Derived.Test.YtdanncfnndcbbaaPArenaPlaysx1
import Derived.Test.YtdanncfnndcbbaaFills
set_option linter.unusedVariables false
set_option linter.unusedSimpArgs false
namespace Go.Proofs.Ytdanncfnndcbbaa.Ref
open Go.RowKit Go.Proofs.YtdanncfnndcbbaaW.PrintWords Go.Proofs.Ytdanncfnndcbbaa.PArenaPlays
open Go.Proofs.Ytdanncfnndcbbaa (WOk nErr rErr ldA stA fillA cutA ldv stv put gb byteOf put_length gb_put gb_ext)

theorem w64 {x : Int} (h0 : -9223372036854775808 ≤ x) (h1 : x ≤ 9223372036854775807) : wrap64 x = x := by unfold wrap64; omega

theorem Width_eq (wd : Int) : turnbuckleref01_Width.f wd = some (decide (WOk wd)) := by
  unfold turnbuckleref01_Width.f
  by_cases h1 : wd = 1
  · subst h1; decide
  · by_cases h2 : wd = 2
    · subst h2; decide
    · by_cases h4 : wd = 4
      · subst h4; decide
      · rw [if_neg h1, if_neg h2, if_neg h4]
        congr 1
        have : (wd == 8) = decide (wd = 8) := by rw [Bool.eq_iff_iff, beq_iff_eq, decide_eq_true_eq]
        rw [this, decide_eq_decide]
        unfold WOk
        omega

theorem Fits_eq (n : Nat) (hn : n ≤ 65536) (at_ m : Int) (hm : m ≤ 9223372036854775807) : turnbuckleref01_Fits.f n at_ m = some (rErr n at_ m) := by
  unfold turnbuckleref01_Fits.f rErr
  by_cases h0 : m < 0
  · rw [if_pos h0, if_pos h0]
  · rw [if_neg h0, if_neg h0, w64 (by omega) (by omega)]
    by_cases h1 : at_ < 0
    · rw [if_pos h1, if_pos (Or.inl h1)]
    · rw [if_neg h1]
      by_cases h2 : m > n
      · rw [if_pos h2, if_pos (by omega)]
      · rw [if_neg h2]
        by_cases h3 : at_ > n - m
        · rw [if_pos h3, if_pos (by omega)]
        · rw [if_neg h3, if_neg (by omega)]

theorem rErr_nErr {n : Nat} {at_ wd : Int} (hw : WOk wd) : rErr n at_ wd = nErr n at_ wd := by
  unfold rErr nErr
  rw [if_pos hw, if_neg (by unfold WOk at hw; omega)]

theorem rd_gb (xs : List Int) (i : Nat) : rd xs (i : Int) = gb xs i := by unfold rd gb; rw [Int.toNat_natCast]

theorem pow256_le {a b : Nat} (h : a ≤ b) : (256 : Int) ^ a ≤ 256 ^ b := by
  obtain ⟨c, rfl⟩ := Nat.le.dest h
  have h1 : (0 : Int) < 256 ^ a := Int.pow_pos (by omega)
  have h2 : (0 : Int) < 256 ^ c := Int.pow_pos (by omega)
  have := Int.mul_le_mul_of_nonneg_left (show (1 : Int) ≤ 256 ^ c by omega) (show (0 : Int) ≤ 256 ^ a by omega)
  rw [Int.mul_one] at this
  rw [Int.pow_add]
  exact this

/-- The loop from the highest byte down. -/
theorem Load_loop (bs : List Int) (hr : ∀ x ∈ bs, 0 ≤ x ∧ x ≤ 255) (hl : bs.length ≤ 65536) (A W : Nat) (hW : W ≤ 8) (hA : A + W ≤ bs.length) :
    ∀ (i k : Nat) (v : Int), i ≤ W → i < k → 0 ≤ v → v < 256 ^ (W - i) → turnbuckleref01_Load.l0 k bs A v ((i : Int) - 1) = some (v * 256 ^ i + ldv bs A i, 0)
  | 0, k, v, _, hk, _, _ => by
    obtain ⟨k, rfl⟩ : ∃ m, k = m + 1 := ⟨k - 1, by omega⟩
    simp only [turnbuckleref01_Load.l0]
    rw [if_neg (by omega), Int.pow_zero, Int.mul_one]
    show some (v, 0) = some (v + 0, 0)
    rw [Int.add_zero]
  | i + 1, k, v, hi, hk, h0, h1 => by
    obtain ⟨k, rfl⟩ : ∃ m, k = m + 1 := ⟨k - 1, by omega⟩
    simp only [turnbuckleref01_Load.l0]
    have e1 : ((i + 1 : Nat) : Int) - 1 = (i : Int) := by omega
    rw [e1, if_pos (by omega), w64 (x := (A : Int) + i) (by omega) (by omega), if_pos (by omega), if_pos (by omega), w64 (x := (i : Int) - 1) (by omega) (by omega)]
    have hb : 0 ≤ gb bs (A + i) ∧ gb bs (A + i) ≤ 255 := by
      unfold gb
      rw [List.getD_eq_getElem?_getD, List.getElem?_eq_getElem (by omega)]
      exact hr _ (List.getElem_mem (by omega))
    have e2 : rd bs ((A : Int) + i) = gb bs (A + i) := by rw [show ((A : Int) + i) = ((A + i : Nat) : Int) by omega, rd_gb]
    rw [e2]
    have hp : v < 256 ^ 7 ∧ v * 256 + 255 < 256 ^ (W - i) := by
      have hle : (256 : Int) ^ (W - (i + 1)) ≤ 256 ^ 7 := pow256_le (by omega)
      have e : (256 : Int) ^ (W - i) = 256 ^ (W - (i + 1)) * 256 := by rw [show W - i = (W - (i + 1)) + 1 by omega, Int.pow_succ]
      constructor
      · omega
      · rw [e]; omega
    have h7 : (256 : Int) ^ 7 = 72057594037927936 := by decide
    have u1 : IntKind.u64.wrap (v * 256) = v * 256 := by simp only [IntKind.wrap, IntKind.bits, IntKind.signed]; simp; omega
    have u2 : IntKind.u64.wrap (gb bs (A + i)) = gb bs (A + i) := by simp only [IntKind.wrap, IntKind.bits, IntKind.signed]; simp; omega
    have u3 : IntKind.u64.wrap (v * 256 + gb bs (A + i)) = v * 256 + gb bs (A + i) := by simp only [IntKind.wrap, IntKind.bits, IntKind.signed]; simp; omega
    rw [u1, u2, u3, Load_loop bs hr hl A W hW hA i k _ (by omega) (by omega) (by omega) (by omega)]
    congr 2
    show (v * 256 + gb bs (A + i)) * 256 ^ i + ldv bs A i = v * 256 ^ (i + 1) + (ldv bs A i + gb bs (A + i) * 256 ^ i)
    rw [Int.pow_succ, Int.add_mul, Int.mul_assoc, Int.mul_comm 256 (256 ^ i)]
    omega

theorem Load_eq (bs : List Int) (hr : ∀ x ∈ bs, 0 ≤ x ∧ x ≤ 255) (hl : bs.length ≤ 65536) (at_ wd : Int) (k : Nat) (hk : 9 < k) :
    turnbuckleref01_Load.f k bs at_ wd = some (ldA bs at_ wd, nErr bs.length at_ wd) := by
  unfold turnbuckleref01_Load.f
  rw [Width_eq]
  simp only [Option.bind_some]
  by_cases hw : WOk wd
  · rw [if_pos (by simpa using hw), Fits_eq _ hl _ _ (by unfold WOk at hw; omega), rErr_nErr hw]
    simp only [Option.bind_some]
    unfold ldA
    by_cases he : nErr bs.length at_ wd = 0
    · have ⟨_, h0, h1⟩ := Go.Proofs.Ytdanncfnndcbbaa.nErr_zero he
      obtain ⟨A, rfl⟩ := Int.eq_ofNat_of_zero_le h0
      obtain ⟨W, rfl⟩ := Int.eq_ofNat_of_zero_le (show 0 ≤ wd by unfold WOk at hw; omega)
      have hW : W ≤ 8 := by unfold WOk at hw; omega
      rw [if_pos he, if_pos he, w64 (by omega) (by omega), Load_loop bs hr hl A W hW (by omega) W k 0 (by omega) (by omega) (by omega) (by simp), he]
      simp
    · rw [if_neg he, if_neg he]
  · rw [if_neg (by simpa using hw), Go.Proofs.Ytdanncfnndcbbaa.nErr_bad hw]
    unfold ldA
    rw [Go.Proofs.Ytdanncfnndcbbaa.nErr_bad hw, if_neg (by omega)]

theorem Lay_loop (bs p : List Int) (A : Nat) (hl : bs.length ≤ 65536) (hA : A + p.length ≤ bs.length) :
    ∀ (d k j : Nat), j + d = p.length → d < k → turnbuckleref01_Lay.l0 k A p (put bs A (gb p) j) j = some (put bs A (gb p) p.length)
  | 0, k, j, hj, hk => by
    obtain ⟨k, rfl⟩ : ∃ m, k = m + 1 := ⟨k - 1, by omega⟩
    simp only [turnbuckleref01_Lay.l0]
    rw [if_neg (by omega), show j = p.length by omega]
  | d + 1, k, j, hj, hk => by
    obtain ⟨k, rfl⟩ : ∃ m, k = m + 1 := ⟨k - 1, by omega⟩
    simp only [turnbuckleref01_Lay.l0]
    rw [if_pos (by omega), if_pos (by omega), w64 (x := (A : Int) + j) (by omega) (by omega), if_pos (by omega), if_pos (by rw [put_length]; omega), w64 (x := (j : Int) + 1) (by omega) (by omega)]
    rw [show ((A : Int) + j).toNat = A + j by omega, rd_gb, show ((j : Int) + 1) = ((j + 1 : Nat) : Int) by omega]
    exact Lay_loop bs p A hl hA d k (j + 1) (by omega) (by omega)

theorem Lay_eq (bs p : List Int) (A : Nat) (hl : bs.length ≤ 65536) (hA : A + p.length ≤ bs.length) (k : Nat) (hk : p.length < k) : turnbuckleref01_Lay.f k bs A p = some (put bs A (gb p) p.length) := by
  unfold turnbuckleref01_Lay.f
  simp only [Option.bind_some]
  rw [if_pos (by simp; omega), List.nil_append]
  exact Lay_loop bs p A hl hA p.length k 0 (by omega) hk

theorem put_congr (bs : List Int) (A : Nat) (f g : Nat → Int) : ∀ k, (∀ j, j < k → f j = g j) → put bs A f k = put bs A g k
  | 0, _ => rfl
  | k + 1, h => by
    show (put bs A f k).set (A + k) (f k) = (put bs A g k).set (A + k) (g k)
    rw [put_congr bs A f g k (fun j hj => h j (by omega)), h k (by omega)]

theorem Store_loop (bs : List Int) (A W : Nat) (v : Int) (hv : 0 ≤ v) (hv1 : v ≤ 18446744073709551615) (hl : bs.length ≤ 65536) (hW : W ≤ 8) (hA : A + W ≤ bs.length) :
    ∀ (d k j : Nat), j + d = W → d + 10 < k → turnbuckleref01_Store.l0 k bs A W (v / 256 ^ j) ((List.range j).map (byteOf v)) j = some (stv bs A v W, 0)
  | 0, k, j, hj, hk => by
    obtain ⟨k, rfl⟩ : ∃ m, k = m + 1 := ⟨k - 1, by omega⟩
    simp only [turnbuckleref01_Store.l0]
    rw [if_neg (by omega), Lay_eq bs _ A hl (by simp; omega) k (by simp; omega)]
    simp only [Option.bind_some]
    congr 2
    obtain rfl : j = W := by omega
    unfold stv
    rw [List.length_map, List.length_range]
    apply put_congr
    intro i hi
    unfold gb
    rw [List.getD_eq_getElem?_getD, List.getElem?_map, List.getElem?_range hi]
    rfl
  | d + 1, k, j, hj, hk => by
    obtain ⟨k, rfl⟩ : ∃ m, k = m + 1 := ⟨k - 1, by omega⟩
    simp only [turnbuckleref01_Store.l0]
    have hp : (0 : Int) < 256 ^ j := Int.pow_pos (by omega)
    have hq : 0 ≤ v / 256 ^ j := Int.ediv_nonneg hv (by omega)
    rw [if_pos (by omega), if_pos (by simp; omega), w64 (x := (j : Int) + 1) (by omega) (by omega)]
    have e1 : Int.tdiv (v / 256 ^ j) 256 = v / 256 ^ (j + 1) := by rw [Int.tdiv_eq_ediv_of_nonneg hq, Int.pow_succ, Int.ediv_ediv_of_nonneg (by omega)]
    have e2 : (Int.tmod (v / 256 ^ j) 256) % 256 = byteOf v j := by rw [Int.tmod_eq_emod_of_nonneg hq, Int.emod_emod]; rfl
    have u : IntKind.u64.wrap (v / 256 ^ (j + 1)) = v / 256 ^ (j + 1) := by
      have h1 : 0 ≤ v / 256 ^ (j + 1) := Int.ediv_nonneg hv (Int.le_of_lt (Int.pow_pos (by omega)))
      have h2 : v / 256 ^ (j + 1) ≤ v := Int.ediv_le_self _ hv
      simp only [IntKind.wrap, IntKind.bits, IntKind.signed]
      simp
      omega
    rw [e1, e2, u, show ((j : Int) + 1) = ((j + 1 : Nat) : Int) by omega]
    have := Store_loop bs A W v hv hv1 hl hW hA d k (j + 1) (by omega) (by omega)
    rw [List.range_succ, List.map_append] at this
    exact this

theorem Store_eq (bs : List Int) (hl : bs.length ≤ 65536) (at_ wd v : Int) (hv : 0 ≤ v) (hv1 : v ≤ 18446744073709551615) (k : Nat) (hk : 30 < k) :
    turnbuckleref01_Store.f k bs at_ wd v = some (stA bs at_ wd v, nErr bs.length at_ wd) := by
  unfold turnbuckleref01_Store.f
  rw [Width_eq]
  simp only [Option.bind_some]
  by_cases hw : WOk wd
  · rw [if_pos (by simpa using hw), Fits_eq _ hl _ _ (by unfold WOk at hw; omega), rErr_nErr hw]
    simp only [Option.bind_some]
    unfold stA
    by_cases he : nErr bs.length at_ wd = 0
    · have ⟨_, h0, h1⟩ := Go.Proofs.Ytdanncfnndcbbaa.nErr_zero he
      obtain ⟨A, rfl⟩ := Int.eq_ofNat_of_zero_le h0
      obtain ⟨W, rfl⟩ := Int.eq_ofNat_of_zero_le (show 0 ≤ wd by unfold WOk at hw; omega)
      have hW : W ≤ 8 := by unfold WOk at hw; omega
      have := Store_loop bs A W v hv hv1 hl hW (by omega) W k 0 (by omega) (by omega)
      rw [Int.pow_zero, Int.ediv_one] at this
      rw [if_pos he, if_pos he, he]
      exact this
    · rw [if_neg he, if_neg he]
  · rw [if_neg (by simpa using hw), Go.Proofs.Ytdanncfnndcbbaa.nErr_bad hw]
    unfold stA
    rw [Go.Proofs.Ytdanncfnndcbbaa.nErr_bad hw, if_neg (by omega)]

theorem Fill_loop (bs : List Int) (A n : Nat) (c : Int) (hl : bs.length ≤ 65536) (hA : A + n ≤ bs.length) :
    ∀ (d k j : Nat), j + d = n → d + n + 1 < k → turnbuckleref01_Fill.l0 k bs A n c (List.replicate j c) j = some (put bs A (fun _ => c) n, 0)
  | 0, k, j, hj, hk => by
    obtain ⟨k, rfl⟩ : ∃ m, k = m + 1 := ⟨k - 1, by omega⟩
    simp only [turnbuckleref01_Fill.l0]
    rw [if_neg (by omega), Lay_eq bs _ A hl (by simp; omega) k (by simp; omega)]
    simp only [Option.bind_some]
    congr 2
    obtain rfl : j = n := by omega
    rw [List.length_replicate]
    apply put_congr
    intro i hi
    unfold gb
    rw [List.getD_eq_getElem?_getD, List.getElem?_replicate, if_pos hi]
    rfl
  | d + 1, k, j, hj, hk => by
    obtain ⟨k, rfl⟩ : ∃ m, k = m + 1 := ⟨k - 1, by omega⟩
    simp only [turnbuckleref01_Fill.l0]
    rw [if_pos (by omega), if_pos (by simp; omega), w64 (x := (j : Int) + 1) (by omega) (by omega), show ((j : Int) + 1) = ((j + 1 : Nat) : Int) by omega]
    have := Fill_loop bs A n c hl hA d k (j + 1) (by omega) (by omega)
    rw [List.replicate_succ'] at this
    exact this

theorem Fill_eq (bs : List Int) (hl : bs.length ≤ 65536) (at_ m c : Int) (hm : m ≤ 9223372036854775807) (k : Nat) (hk : 200000 < k) :
    turnbuckleref01_Fill.f k bs at_ m c = some (fillA bs at_ m c, rErr bs.length at_ m) := by
  unfold turnbuckleref01_Fill.f
  rw [Fits_eq _ hl _ _ hm]
  simp only [Option.bind_some]
  unfold fillA
  by_cases he : rErr bs.length at_ m = 0
  · have ⟨hm0, h0, h1⟩ := Go.Proofs.Ytdanncfnndcbbaa.rErr_zero he
    obtain ⟨A, rfl⟩ := Int.eq_ofNat_of_zero_le h0
    obtain ⟨M, rfl⟩ := Int.eq_ofNat_of_zero_le hm0
    have := Fill_loop bs A M c hl (by omega) M k 0 (by omega) (by omega)
    rw [if_pos he, if_pos he, he]
    exact this
  · rw [if_neg he, if_neg he]
end Go.Proofs.Ytdanncfnndcbbaa.Ref
