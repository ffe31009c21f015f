/- A row of bytes as a string. -/
import Derived.Test.YtlomgbackphmmaaDoorInPa0
import Derived.Laws.BytesArg
set_option linter.unusedVariables false
set_option linter.unusedSimpArgs false
namespace Go.Proofs.YtlomgbackphmmaaDoor
open Go.RowKit Go.Lib

theorem conv_by {w : World} {A : Option Addr} {l : List Int} (h : By w A l) (n c : Nat) (hn : n = l.length) : (convert 41 9 (.slice A n c)).run Tryd.prog w = .ok (.string (strOfNums l)) w := by
  subst hn
  cases A with
  | none =>
    have h0 : l.length = 0 := by
      by_cases h0 : l.length = 0
      · exact h0
      · obtain ⟨ad, e, _⟩ := h.at' 0 (by omega)
        exact absurd e (by simp)
    obtain rfl : l = [] := List.eq_nil_of_length_eq_zero h0
    exact run_convert_bytes_nil w 41 5 Tryd.underlying41 Tryd.underlying5 _ c 9 Tryd.underlying9
  | some ad =>
    have hl : (loadCells ad l.length).run Tryd.prog w = .ok (l.map (Value.int .u8)).toArray w := by
      have := run_loadCells_list (P := Tryd.prog) w ad (l.map (Value.int .u8)) (fun j v hj => by
        have hjl : j < l.length := by have := (List.getElem?_eq_some_iff.1 hj).1; rwa [List.length_map] at this
        obtain ⟨ad', e, _, hc⟩ := h.at' j hjl
        obtain rfl : ad = ad' := by injection e
        rw [hc, List.getD_eq_getElem?_getD, List.getElem?_eq_getElem hjl]
        rw [List.getElem?_map, List.getElem?_eq_getElem hjl] at hj
        exact hj)
      rw [List.length_map] at this
      exact this
    rw [run_convert_bytes_string w 41 9 5 _ l.length c Tryd.underlying41 Tryd.underlying5 Tryd.underlying9, run_bytesToString w _ l.length c l hl, foldl_push_bytes]
    simp [strOfNums, ByteArray.empty, ByteArray.emptyWithCapacity]
    rfl
end Go.Proofs.YtlomgbackphmmaaDoor
