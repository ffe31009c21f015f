/- The reference's Text, plain: what it puts together is what insn.Text writes. -/
import Derived.Test.YtlomgbackphmmaaDoorInRf0
import Derived.Test.YtlomgbackphmmaaDoorInQ3
set_option linter.unusedVariables false
set_option linter.unusedSimpArgs false
namespace Go.Proofs.YtlomgbackphmmaaDoor.RefC
open Go.RowKit Go.Lib Go.Proofs.YtlomgbackphmmaaDoorW.PrintWords Go.Proofs.YtlomgbackphmmaaDoor.PInsnReads
open Go.Proofs.YtlomgbackphmmaaDoor (Ins z0 chk isOp bnd hasW over dig dig_size data_inj txt parts wl wrd mkN sR sS sF sE sP chk_op chk_word data_add)

/-! ### A number's digits -/
theorem dig_small (u : Nat) (h : u < 10) : dig u = strOfNums [((48 + Int.tmod (u : Int) 10) % 4294967296) % 256] := by
  unfold dig
  rw [decDigits, dif_pos h]
  have : u = 0 ∨ u = 1 ∨ u = 2 ∨ u = 3 ∨ u = 4 ∨ u = 5 ∨ u = 6 ∨ u = 7 ∨ u = 8 ∨ u = 9 := by omega
  rcases this with rfl | rfl | rfl | rfl | rfl | rfl | rfl | rfl | rfl | rfl <;> rfl
theorem dig_big (u : Nat) (h : ¬ u < 10) : dig u = dig (u / 10) ++ strOfNums [((48 + Int.tmod (u : Int) 10) % 4294967296) % 256] := by
  have e : strOfNums [((48 + Int.tmod (u : Int) 10) % 4294967296) % 256] = dig (u % 10) := by
    rw [dig_small (u % 10) (Nat.mod_lt _ (by decide))]
    have : Int.tmod (u : Int) 10 = Int.tmod ((u % 10 : Nat) : Int) 10 := by
      rw [Int.tmod_eq_emod_of_nonneg (by omega), Int.tmod_eq_emod_of_nonneg (by omega)]
      omega
    rw [this]
  rw [e]
  apply data_inj
  rw [data_add]
  show decDigits u = decDigits (u / 10) ++ decDigits (u % 10)
  rw [decDigits, dif_neg h]
  congr 1
  rw [decDigits, dif_pos (Nat.mod_lt _ (by decide))]
theorem dec_f : ∀ (k u : Nat), 1 ≤ k → u < 10 ^ k → u < 4294967296 → turnbuckleref06_Decimal.f k (u : Int) = some (dig u)
  | 0, u, h, _, _ => by omega
  | k + 1, u, _, h, hu => by
    unfold turnbuckleref06_Decimal.f
    rw [Option.bind_some]
    by_cases h1 : u < 10
    · rw [if_pos (by omega), dig_small u h1]
    · rw [if_neg (by omega), dig_big u h1]
      have e : (Int.tdiv (u : Int) 10) % 4294967296 = ((u / 10 : Nat) : Int) := by
        rw [Int.tdiv_eq_ediv_of_nonneg (by omega)]
        omega
      have hk : 1 ≤ k := by
        rcases k with _ | k
        · simp at h; omega
        · omega
      rw [e, dec_f k (u / 10) hk (by rw [Nat.pow_succ] at h; omega) (by omega), Option.bind_some, if_pos]
      have := dig_size (u / 10) (by omega)
      have e2 : (dig (u / 10)).size ≤ 10 := this
      rw [strOfNums_size]
      simp only [List.length_cons, List.length_nil]
      omega
theorem RDecimal (n : Int) (h0 : 0 ≤ n) (h1 : n ≤ 4294967295) (w : World) : Calls Tryd.prog 28 #[.int .u32 n] w fun e w' => e = .returned (.string (dig n.toNat)) ∧ Below w.heap.size w w' := by
  obtain ⟨u, rfl⟩ := Int.eq_ofNat_of_zero_le h0
  exact turnbuckleref06_Decimal.calls 10 u _ w (dec_f 10 u (by decide) (by omega) (by omega))

/-! ### Piece by piece -/
def fv (x : Ins) (f : Int) : Int := if f = 65 then x.a else if f = 66 then x.b else if f = 67 then x.c else x.imm
theorem fv_range (x : Ins) (hx : x.Ok) (f : Int) : 0 ≤ fv x f ∧ fv x f ≤ 4294967295 := by
  have h1 := hx.a
  have h2 := hx.b
  have h3 := hx.c
  have h4 := hx.imm
  unfold fv
  split
  · omega
  · split
    · omega
    · split
      · omega
      · omega
theorem Rvalue (x : Ins) (hx : x.Ok) (f : Int) (w : World) : Calls Tryd.prog 27 #[.agg x.cells, .int .u8 f] w fun e w' => e = .returned (.int .u32 (fv x f)) ∧ Below w.heap.size w w' := by
  refine turnbuckleref06_value.calls x.op x.a x.b x.c x.imm f (fv x f) w ?_
  have h1 := hx.a
  have h2 := hx.b
  have h3 := hx.c
  unfold turnbuckleref06_value.f fv
  split
  · rw [Int.emod_eq_of_lt h1.1 (by omega)]
  · split
    · rw [Int.emod_eq_of_lt h2.1 (by omega)]
    · split
      · rw [Int.emod_eq_of_lt h3.1 (by omega)]
      · rfl
/-- One more part of the text. -/
def pcs (x : Ins) (P : ByteArray) (W : List ByteArray) (j : Nat) (s : ByteArray) : ByteArray :=
  if bt P (2 * j + 1) = 114 ∨ bt P (2 * j + 1) = 120 then ((s ++ (⟨#[32]⟩ : ByteArray)) ++ (⟨#[114]⟩ : ByteArray)) ++ dig (fv x (bt P (2 * j))).toNat
  else if bt P (2 * j + 1) = 115 ∨ bt P (2 * j + 1) = 102 ∨ bt P (2 * j + 1) = 43 then ((s ++ (⟨#[32]⟩ : ByteArray)) ++ P.extract (2 * j + 1) (2 * j + 2)) ++ dig (fv x (bt P (2 * j))).toNat
  else if bt P (2 * j + 1) = 119 then (s ++ (⟨#[32]⟩ : ByteArray)) ++ W.getD (fv x (bt P (2 * j)) - 1).toNat ⟨#[]⟩
  else (s ++ (⟨#[32]⟩ : ByteArray)) ++ dig (fv x (bt P (2 * j))).toNat
def rts (x : Ins) (P : ByteArray) (W : List ByteArray) (s : ByteArray) : Nat → ByteArray
  | 0 => s
  | j + 1 => pcs x P W j (rts x P W s j)
theorem size_add (a b : ByteArray) : (a ++ b).size = a.size + b.size := ByteArray.size_append
theorem pcs_size (x : Ins) (hx : x.Ok) (P : ByteArray) (W : List ByteArray) (hW : ∀ b ∈ W, b.size ≤ 9) (j : Nat) (s : ByteArray) : (pcs x P W j s).size ≤ s.size + 12 := by
  have hd : (dig (fv x (bt P (2 * j))).toNat).size ≤ 10 := dig_size _ (by have := fv_range x hx (bt P (2 * j)); omega)
  have h1 : (⟨#[32]⟩ : ByteArray).size = 1 := rfl
  have h2 : (⟨#[114]⟩ : ByteArray).size = 1 := rfl
  unfold pcs
  split
  · simp only [size_add]; omega
  · split
    · have h3 : (P.extract (2 * j + 1) (2 * j + 2)).size ≤ 1 := by
        rw [ByteArray.size_extract]; omega
      simp only [size_add]; omega
    · split
      · have h4 : (W.getD (fv x (bt P (2 * j)) - 1).toNat ⟨#[]⟩).size ≤ 9 := by
          rw [List.getD_eq_getElem?_getD]
          cases h : W[(fv x (bt P (2 * j)) - 1).toNat]? with
          | none => exact Nat.zero_le _
          | some b => exact hW b (List.mem_of_getElem? h)
        simp only [size_add]; omega
      · simp only [size_add]; omega
theorem rts_size (x : Ins) (hx : x.Ok) (P : ByteArray) (W : List ByteArray) (hW : ∀ b ∈ W, b.size ≤ 9) (s : ByteArray) (hs : s.size ≤ 20) : ∀ j, (rts x P W s j).size ≤ 20 + 12 * j
  | 0 => hs
  | j + 1 => by
    have h1 := rts_size x hx P W hW s hs j
    have h2 := pcs_size x hx P W hW j (rts x P W s j)
    show (pcs x P W j (rts x P W s j)).size ≤ _
    omega

/-- What the parts of an operation are. -/
structure Pt (x : Ins) (F P : ByteArray) (W : List ByteArray) (m : Nat) (s0 : ByteArray) : Prop where
  f : turnbuckleref06_Parts.f x.op = some (F, P)
  w : turnbuckleref06_Words.f 10 x.op = some W
  sz : P.size = 2 * m
  m4 : m ≤ 4
  wz : ∀ b ∈ W, b.size ≤ 9
  s0z : s0.size ≤ 20
  fz : F.size ≤ 20
  wl : W.length ≤ 22
  head : (W.length = 0 ∧ s0 = F) ∨ (0 < W.length ∧ x.op = 14 ∧ s0 = F) ∨ (0 < W.length ∧ x.op ≠ 14 ∧ 1 ≤ x.c ∧ x.c ≤ W.length ∧
    ((F = ⟨#[]⟩ ∧ s0 = W.getD (x.c - 1).toNat ⟨#[]⟩) ∨ (F = ⟨#[105]⟩ ∧ s0 = W.getD (x.c - 1).toNat ⟨#[]⟩ ++ (⟨#[105]⟩ : ByteArray)) ∨ (F = ⟨#[106]⟩ ∧ s0 = (⟨#[106]⟩ : ByteArray) ++ W.getD (x.c - 1).toNat ⟨#[]⟩) ∨
      (F = ⟨#[106, 105]⟩ ∧ s0 = ((⟨#[106]⟩ : ByteArray) ++ W.getD (x.c - 1).toNat ⟨#[]⟩) ++ (⟨#[105]⟩ : ByteArray))))
  kd : ∀ j, j < m → bt P (2 * j + 1) = 114 ∨ bt P (2 * j + 1) = 120 ∨ bt P (2 * j + 1) = 115 ∨ bt P (2 * j + 1) = 102 ∨ bt P (2 * j + 1) = 43 ∨ bt P (2 * j + 1) = 119 ∨ bt P (2 * j + 1) = 110
  word : ∀ j, j < m → bt P (2 * j + 1) = 119 → 1 ≤ fv x (bt P (2 * j)) ∧ fv x (bt P (2 * j)) ≤ W.length
  all : rts x P W s0 m = txt x
end Go.Proofs.YtlomgbackphmmaaDoor.RefC
