/- insn, plain: what was written is read back. -/
import Derived.Test.YtlomgbackphmmaaDoorInR2
import Derived.Lib.SplitLaws
set_option linter.unusedVariables false
set_option linter.unusedSimpArgs false
namespace Go.Proofs.YtlomgbackphmmaaDoor
open Go.RowKit Go.Lib

/-! ### A text parted at blanks -/
theorem indexByte_at {l r : List UInt8} (h : (32 : UInt8) ∉ l) : indexByte (l ++ 32 :: r) 32 = (l.length : Int) := by
  induction l with
  | nil => rfl
  | cons b l ih =>
    have hb : ¬ (b == 32) = true := fun e => h (by rw [beq_iff_eq.1 e]; exact List.mem_cons_self ..)
    have := ih (fun hh => h (List.mem_cons_of_mem _ hh))
    rw [List.cons_append]
    unfold indexByte
    rw [if_neg hb, this, if_neg (by rw [beq_iff_eq]; omega), List.length_cons]
    omega
theorem join_two (x y : List UInt8) (r : List (List UInt8)) : join (x :: y :: r) [32] = x ++ 32 :: join (y :: r) [32] := by
  rw [join_cons, join_cons]
  simp [joinTail]
theorem splitK_join : ∀ (xs : List (List UInt8)) (x : List UInt8), (∀ y ∈ x :: xs, (32 : UInt8) ∉ y) → splitK [32] 0 xs.length (join (x :: xs) [32]) = x :: xs
  | [], x, _ => by rw [join_one]; rfl
  | y :: r, x, h => by
    have hx := h x (List.mem_cons_self ..)
    have hi : index (join (x :: y :: r) [32]) [32] = (x.length : Int) := by rw [join_two, index_one]; exact indexByte_at hx
    have ih := splitK_join r y (fun z hz => h z (List.mem_cons_of_mem _ hz))
    rw [List.length_cons]
    unfold splitK
    rw [if_neg (by rw [hi, beq_iff_eq]; omega), hi, Int.toNat_natCast, join_two]
    rw [show (x ++ 32 :: join (y :: r) [32]).take (x.length + 0) = x from by simp, show (x ++ 32 :: join (y :: r) [32]).drop (x.length + [(32 : UInt8)].length) = join (y :: r) [32] from by simp, ih]
theorem count_join : ∀ (xs : List (List UInt8)) (x : List UInt8), (∀ y ∈ x :: xs, (32 : UInt8) ∉ y) → (join (x :: xs) [32]).count 32 = xs.length
  | [], x, h => by rw [join_one]; exact List.count_eq_zero.2 (h x (List.mem_cons_self ..))
  | y :: r, x, h => by
    have ih := count_join r y (fun z hz => h z (List.mem_cons_of_mem _ hz))
    rw [join_two, List.count_append, List.count_cons_self, ih, List.count_eq_zero.2 (h x (List.mem_cons_self ..)), List.length_cons]
    omega
theorem data_inj {a b : ByteArray} (h : a.data.toList = b.data.toList) : a = b := ByteArray.ext (Array.toList_inj.mp h)
theorem map_data_inj : ∀ {a b : List ByteArray}, a.map (·.data.toList) = b.map (·.data.toList) → a = b
  | [], [], _ => rfl
  | [], _ :: _, h => by cases h
  | _ :: _, [], h => by cases h
  | x :: a, y :: b, h => by
    rw [List.map_cons, List.map_cons, List.cons.injEq] at h
    rw [data_inj h.1, map_data_inj h.2]
theorem split_join (p : ByteArray) (ps : List ByteArray) (h : ∀ y ∈ p :: ps, (32 : UInt8) ∉ y.data.toList) : SplitOf ⟨(join ((p :: ps).map (·.data.toList)) [32]).toArray⟩ = p :: ps := by
  have h' : ∀ y ∈ p.data.toList :: ps.map (·.data.toList), (32 : UInt8) ∉ y := fun y hy => by
    rw [← List.map_cons (f := fun q : ByteArray => q.data.toList)] at hy
    obtain ⟨q, hq, rfl⟩ := List.mem_map.1 hy
    exact h q hq
  apply map_data_inj
  unfold SplitOf
  rw [splitB_data]
  have hc : countB (⟨(join ((p :: ps).map (·.data.toList)) [32]).toArray⟩ : ByteArray) ⟨#[32]⟩ = (ps.map (·.data.toList)).length := by
    show count (join ((p :: ps).map (·.data.toList)) [32]) [32] = _
    rw [count_one, List.map_cons]
    exact count_join _ _ h'
  rw [hc]
  exact splitK_join _ _ h'

/-! ### Digits -/
theorem dig_char (k : Nat) (h : k < 10) : (UInt8.ofNat (48 + k)).toNat = 48 + k := by
  have : k = 0 ∨ k = 1 ∨ k = 2 ∨ k = 3 ∨ k = 4 ∨ k = 5 ∨ k = 6 ∨ k = 7 ∨ k = 8 ∨ k = 9 := by omega
  rcases this with rfl | rfl | rfl | rfl | rfl | rfl | rfl | rfl | rfl | rfl <;> rfl
theorem fold10_app : ∀ (l : List UInt8) (c : UInt8) (v : Int), fold10 (l ++ [c]) v = (fold10 l v).bind (fun n => if 48 ≤ c.toNat ∧ c.toNat ≤ 57 then some (10 * n + ((c.toNat : Int) - 48)) else none)
  | [], c, v => rfl
  | b :: l, c, v => by
    rw [List.cons_append]
    unfold fold10
    split
    · exact fold10_app l c _
    · rfl
theorem digits_all (u : Nat) : (∀ c ∈ decDigits u, 48 ≤ c.toNat ∧ c.toNat ≤ 57) ∧ fold10 (decDigits u) 0 = some (u : Int) ∧ (0 < u → (decDigits u).head? ≠ some 48) ∧ 0 < (decDigits u).length := by
  induction u using Nat.strongRecOn with
  | _ u ih =>
    rw [decDigits]
    split
    · rename_i h
      have e := dig_char u h
      refine ⟨fun c hc => ?_, ?_, fun h0 hh => ?_, by simp⟩
      · rw [List.mem_singleton.1 hc, e]; omega
      · unfold fold10 fold10
        rw [if_pos (by omega), e]
        congr 1
        omega
      · rw [List.head?_cons] at hh
        have := congrArg UInt8.toNat (Option.some.inj hh)
        rw [e] at this
        have h48 : (48 : UInt8).toNat = 48 := rfl
        omega
    · rename_i h
      obtain ⟨i1, i2, i3, i4⟩ := ih (u / 10) (by omega)
      have e := dig_char (u % 10) (by omega)
      refine ⟨fun c hc => ?_, ?_, fun h0 hh => ?_, by simp⟩
      · rcases List.mem_append.1 hc with hc | hc
        · exact i1 c hc
        · rw [List.mem_singleton.1 hc, e]; omega
      · rw [fold10_app, i2]
        show (if _ then _ else _) = _
        rw [if_pos (by rw [e]; omega), e]
        congr 1
        omega
      · refine i3 (by omega) ?_
        cases hd : decDigits (u / 10) with
        | nil => rw [hd] at i4; simp at i4
        | cons b l => rw [hd] at hh; exact hh
theorem numR_dig (u : Nat) (hu : u < 4294967296) : numR (decDigits u) = (u : Int) := by
  obtain ⟨h1, h2, h3, h4⟩ := digits_all u
  have h5 : (decDigits u).length ≤ 10 := by rw [decDigits_length]; exact nDigits_le 10 u (by omega) (by omega)
  unfold numR
  rw [if_neg, h2]
  · show (u : Int) % 4294967296 = u
    omega
  · rintro (e | e | ⟨e1, e2⟩)
    · rw [e] at h4; simp at h4
    · omega
    · refine h3 ?_ e2
      rcases Nat.eq_zero_or_pos u with e0 | e0
      · rw [e0, decDigits_one (by omega)] at e1
        simp at e1
      · exact e0
theorem numV_mk (s : ByteArray) (n : Int) (h0 : 0 ≤ n) (h1 : n ≤ 4294967295) : numV (mkN s n).data.toList s.data.toList = n := by
  obtain ⟨u, rfl⟩ := Int.eq_ofNat_of_zero_le h0
  have hp : hasPrefix (s.data.toList ++ decDigits u) s.data.toList = true := by
    unfold hasPrefix
    rw [List.isPrefixOf_iff_prefix]
    exact List.prefix_append _ _
  unfold mkN numV
  rw [data_add, Int.toNat_natCast]
  show (if hasPrefix (s.data.toList ++ decDigits u) s.data.toList = true then _ else _) = _
  rw [if_pos hp]
  unfold trimPrefix
  rw [show (dig u).data.toList = decDigits u from rfl, if_pos hp, List.drop_left]
  exact numR_dig u (by omega)
end Go.Proofs.YtlomgbackphmmaaDoor
