/- insn.number: a number behind a sign, read. -/
import Derived.Test.YtlomgbackphmmaaDoorInP
import Derived.Deep.DeepCutAuto
import Derived.Lib.ConvBytes
set_option linter.unusedVariables false
set_option linter.unusedSimpArgs false
namespace Go.Proofs.YtlomgbackphmmaaDoor
open Go.RowKit Go.Lib

/-- Digits, read one by one. -/
def fold10 : List UInt8 → Int → Option Int
  | [], n => some n
  | c :: l, n => if 48 ≤ c.toNat ∧ c.toNat ≤ 57 then fold10 l (10 * n + ((c.toNat : Int) - 48)) else none
/-- What is read of a number's digits; 0: they are none. -/
def numR (r : List UInt8) : Int :=
  if r = [] ∨ 10 < r.length ∨ (1 < r.length ∧ r.head? = some 48) then 0 else match fold10 r 0 with
    | none => 0
    | some n => n % 4294967296
def numV (s sign : List UInt8) : Int := if hasPrefix s sign = true then numR (trimPrefix s sign) else 0
theorem numR_range (r : List UInt8) : 0 ≤ numR r ∧ numR r ≤ 4294967295 := by
  unfold numR
  split
  · omega
  · split <;> omega
theorem numV_range (s g : List UInt8) : 0 ≤ numV s g ∧ numV s g ≤ 4294967295 := by
  unfold numV
  split
  · exact numR_range _
  · omega
def NumPost (v : Int) (w : World) (e : Ending) (w' : World) : Prop := ∃ b, e = .returned (.tuple #[.int .u32 v, .bool b]) ∧ Below w.heap.size w w'

theorem fold10_drop (l : List UInt8) (k : Nat) (h : k < l.length) (v : Int) : fold10 (l.drop k) v = if 48 ≤ (l.getD k 0).toNat ∧ (l.getD k 0).toNat ≤ 57 then fold10 (l.drop (k + 1)) (10 * v + (((l.getD k 0).toNat : Int) - 48)) else none := by
  rw [List.drop_eq_getElem_cons h, List.getD_eq_getElem?_getD, List.getElem?_eq_getElem h]
  rfl
theorem bytes_below (w : World) (e : TypeId) (r : ByteArray) : Below w.heap.size w (bytesWorld w e r) := by
  refine ⟨?_, ?_, ?_, ?_, fun i hi => bytesWorld_at_old w e r i hi⟩
  · rfl
  · rfl
  · rfl
  · rw [bytesWorld_size]; omega
set_option maxRecDepth 100000 in
set_option maxHeartbeats 4000000 in
theorem number_none (s p : ByteArray) (m : Int) (w : World) (h : hasPrefix s.data.toList p.data.toList = false) :
    Calls Tryd.prog 36 #[.string s, .string p, .int .u64 m] w (NumPost 0 w) := by
  go_enter Tryd.func36, Tryd.ntmps36
  go_wp2_with fail
  refine (Tryd.strings_CutPrefix s p _).mono ?_
  rintro e w1 ⟨rfl, rfl⟩
  rw [h]
  go_wp2
  go_ret2
  exact ⟨false, rfl, Below.refl _ _⟩
set_option maxRecDepth 100000 in
set_option maxHeartbeats 4000000 in
theorem number_some (s p r : ByteArray) (m : Int) (w : World) (h : hasPrefix s.data.toList p.data.toList = true) (hr : (⟨(trimPrefix s.data.toList p.data.toList).toArray⟩ : ByteArray) = r) :
    Calls Tryd.prog 36 #[.string s, .string p, .int .u64 m] w (NumPost (numR r.data.toList) w) := by
  have HR := Lib.hid hr
  have HH := Lib.hid h
  clear hr h
  by_cases h0 : r.size = 0
  · have hr : r = ⟨#[]⟩ := ByteArray.ext (Array.eq_empty_of_size_eq_zero h0)
    subst hr
    go_enter Tryd.func36, Tryd.ntmps36
    go_wp2_with fail
    refine (Tryd.strings_CutPrefix s p _).mono ?_
    rintro e w1 ⟨rfl, rfl⟩
    rw [HH.out, HR.out]
    go_wp2
    go_ret2
    exact ⟨false, rfl, Below.refl _ _⟩
  have hne : ¬ r.toList = [] := by
    rw [ByteArray.toList_eq]
    intro e
    exact h0 (by rw [← ByteArray.size_data, ← Array.length_toList, e]; rfl)
  by_cases h10 : 10 < r.size
  · have hv : numR r.data.toList = 0 := by
      unfold numR
      rw [if_pos (.inr (.inl h10))]
    rw [hv]
    have hd : decide ((10 : Int) < (r.size : Int)) = true := decide_eq_true (by omega)
    go_enter Tryd.func36, Tryd.ntmps36
    go_wp2_with fail
    refine (Tryd.strings_CutPrefix s p _).mono ?_
    rintro e w1 ⟨rfl, rfl⟩
    rw [HH.out, HR.out]
    go_wp2
    go_ret2
    exact ⟨false, rfl, Below.refl _ _⟩
  have hd : decide ((10 : Int) < (r.size : Int)) = false := decide_eq_false (by omega)
  have hs1 : 0 < r.size := by omega
  by_cases h48 : 1 < r.size ∧ r[0] = 48
  · have hh : r.data.toList.head? = some 48 := by
      rw [List.head?_eq_getElem?, List.getElem?_eq_getElem (show 0 < r.data.toList.length from hs1)]
      exact congrArg some h48.2
    have hv : numR r.data.toList = 0 := by
      unfold numR
      rw [if_pos (.inr (.inr ⟨h48.1, hh⟩))]
    clear hh
    rw [hv]
    obtain ⟨h1, h2⟩ := h48
    have hd1 : decide ((1 : Int) < (r.size : Int)) = true := decide_eq_true (by omega)
    have h3 : r[0].toNat = 48 := by rw [h2]; rfl
    clear h2 hv
    go_enter Tryd.func36, Tryd.ntmps36
    go_wp2_with fail
    refine (Tryd.strings_CutPrefix s p _).mono ?_
    rintro e w1 ⟨rfl, rfl⟩
    rw [HH.out, HR.out]
    go_wp2
    go_ret2
    exact ⟨false, rfl, Below.refl _ _⟩
  have hcase : (∃ b, decide ((1 : Int) < (r.size : Int)) = b) := ⟨_, rfl⟩
  have h48' : decide ((1 : Int) < (r.size : Int)) = false ∨ decide ((1 : Int) < (r.size : Int)) = true ∧ (((r[0].toNat : Nat) : Int) == 48) = false := by
    by_cases h1 : 1 < r.size
    · refine .inr ⟨decide_eq_true (by omega), ?_⟩
      rw [beq_eq_false_iff_ne]
      intro e
      exact h48 ⟨h1, UInt8.toNat_inj.1 (by show r[0].toNat = 48; omega)⟩
    · exact .inl (decide_eq_false (by omega))
  have hvv : numR r.data.toList = match fold10 r.data.toList 0 with
    | none => 0
    | some n => n % 4294967296 := by
    unfold numR
    rw [if_neg]
    rintro (e | e | ⟨e1, e2⟩)
    · exact h0 (by rw [← ByteArray.size_data, ← Array.length_toList, e]; rfl)
    · exact h10 e
    · refine h48 ⟨e1, ?_⟩
      rw [List.head?_eq_getElem?, List.getElem?_eq_getElem (show 0 < r.data.toList.length from hs1)] at e2
      exact Option.some.inj e2
  have HVV := Lib.hid hvv
  have H48 := Lib.hid h48'
  clear hvv h48' h48 hcase
  have hne2 : r.toList.isEmpty = false := by
    rw [List.isEmpty_eq_false_iff]
    exact hne
  have hcv := fun W => Go.Lib.run_convert_string_bytes (P := Tryd.prog) W 9 41 5 r Tryd.underlying9 Tryd.underlying41 Tryd.underlying5
  rcases H48.out with h1 | ⟨h1, h2⟩
  all_goals
    go_enter Tryd.func36, Tryd.ntmps36
    go_wp2_with fail
    refine (Tryd.strings_CutPrefix s p _).mono ?_
    rintro e w1 ⟨rfl, rfl⟩
    rw [HH.out, HR.out]
    go_wp2
    have hB0 := bytes_below w1 5 r
    have hcl := fun j => bytesWorld_cell w1 5 r j
    generalize bytesWorld w1 5 r = wb at *
    generalize grownCap w1 r.size 0 5 = gc at *
    have HB0 := Lib.hid hB0
    have HCL := Lib.hid hcl
    clear hB0 hcl hcv
    go_loop [10, 43] (fun nv kv => ∃ (k : Nat) (v : Int), k ≤ r.size ∧ kv = .int .i64 (k : Int) ∧ nv = .int .u64 v ∧ 0 ≤ v ∧ v < 10 ^ k ∧ fold10 (r.data.toList.drop k) v = fold10 r.data.toList 0) (fun _ kv => r.size - (RowKit.intOf kv).toNat)
    case atStart => exact ⟨0, 0, by omega, rfl, rfl, by omega, by decide, rfl⟩
    case round =>
      obtain ⟨k, v, hk, rfl, rfl, hv0, hv1, hfo⟩ := hrel
      have HFO := Lib.hid hfo
      clear hfo
      by_cases hlt : k < r.size
      · have hk9 : k ≤ 9 := by omega
        have hp : (10 : Int) ^ k ≤ 10 ^ 9 := by
          have := Nat.pow_le_pow_right (show 0 < 10 by omega) hk9
          exact_mod_cast this
        have hp9 : (10 : Int) ^ 9 = 1000000000 := by decide
        have hv9 : v < 1000000000 := by omega
        have HV1 := Lib.hid hv1
        have hcell := HCL.out k hlt
        have hfd := fold10_drop r.data.toList k hlt v
        have hc255 : (r.data.toList.getD k 0).toNat ≤ 255 := by have := (r.data.toList.getD k 0).toNat_lt; omega
        generalize (r.data.toList.getD k 0).toNat = c at *
        have HFD := Lib.hid hfd
        clear hp hp9 hv1 hfd
        have hd1 : decide ((k : Int) < (r.size : Int)) = true := decide_eq_true (by omega)
        have hki : (k : Int) < (r.size : Int) := by omega
        by_cases hdig : 48 ≤ c ∧ c ≤ 57
        · obtain ⟨hc1, hc2⟩ := hdig
          have e1 : decide ((c : Int) < 48) = false := decide_eq_false (by omega)
          have e2 : decide ((57 : Int) < (c : Int)) = false := decide_eq_false (by omega)
          go_wp2
          go_round
          case rel =>
            refine ⟨k + 1, 10 * v + ((c : Int) - 48), by omega, by go_num, rfl, by omega, ?_, ?_⟩
            · have := HV1.out
              rw [Int.pow_succ]
              omega
            · have := HFD.out
              rw [if_pos ⟨hc1, hc2⟩] at this
              rw [← this]
              exact HFO.out
          case measure => simp [RowKit.intOf]; omega
        · have hv : numR r.data.toList = 0 := by
            rw [HVV.out, ← HFO.out, HFD.out, if_neg hdig]
          rw [hv]
          have e3 : (decide ((c : Int) < 48) = true) ∨ (decide ((c : Int) < 48) = false ∧ decide ((57 : Int) < (c : Int)) = true) := by
            by_cases h : c < 48
            · exact .inl (decide_eq_true (by omega))
            · exact .inr ⟨decide_eq_false (by omega), decide_eq_true (by omega)⟩
          clear hdig hv
          rcases e3 with e3 | ⟨e3, e4⟩
          all_goals
            go_wp2
            go_ret2
            exact ⟨_, rfl, HB0.out⟩
      · obtain rfl : k = r.size := by omega
        have hv : numR r.data.toList = v % 4294967296 := by
          rw [HVV.out, ← HFO.out, List.drop_of_length_le (show r.data.toList.length ≤ r.size from Nat.le_refl _)]
          rfl
        have HV := Lib.hid hv
        have hd1 : decide ((r.size : Int) < (r.size : Int)) = false := decide_eq_false (by omega)
        clear hv
        go_wp2
        go_ret2
        exact ⟨_, by rw [HV.out]; rfl, HB0.out⟩
theorem number_any (s p : ByteArray) (m : Int) (w : World) :
    Calls Tryd.prog 36 #[.string s, .string p, .int .u64 m] w (NumPost (numV s.data.toList p.data.toList) w) := by
  unfold numV
  cases h : hasPrefix s.data.toList p.data.toList
  · exact number_none s p m w h
  · have := number_some s p _ m w h rfl
    simpa using this
end Go.Proofs.YtlomgbackphmmaaDoor
