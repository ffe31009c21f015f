/- The bulk of a slice: at least its length. -/
import Derived.Test.YtlomgbackphmmaaDoorRows
import Derived.Test.YtlomgbackphmmaaDoorCol
import Derived.ChangeArms
set_option linter.unusedVariables false
namespace Go.Proofs.YtlomgbackphmmaaDoor
open Go.RowKit Go.ChangeShapes Go.WideShapes Go.Deep
theorem bulk_pos {H : Type} (d : DataW H) : 1 ≤ Rows.uptoBulk d := by
  cases d with
  | lit l => cases l <;> simp [Rows.uptoBulk]
  | nil => simp [Rows.uptoBulk]
  | ptr d => simp [Rows.uptoBulk]
  | slice a b => simp [Rows.uptoBulk]
  | agg a => simp [Rows.uptoBulk]
  | iface t d => simp [Rows.uptoBulk]
  | map m => simp [Rows.uptoBulk]
  | held x => simp [Rows.uptoBulk]
theorem bulkAll_ge {H : Type} : ∀ l : List (DataW H), l.length ≤ Rows.uptoBulkAll l
  | [] => Nat.zero_le _
  | d :: l => by
    have h1 := bulk_pos d
    have h2 := bulkAll_ge l
    rw [Rows.uptoBulkAll, List.length_cons]
    omega
theorem bulk_slice {H : Type} {enc : TypeId × Value → H} {P : Program} {w : World} {base : Nat} {spare : Nat → Bool} {held : Bool} {t e : TypeId} {fuel len cap : Nat} {A : Option Addr} {d : DataW H} {p : List MemPlace} (ht : P.underlying t = some (.slice e))
    (h : DataW.trod enc P w base spare held fuel t [.slice A len cap] = some (d, p)) : len ≤ Rows.uptoBulk d := by
  rcases DataW.trod_slice ht h with ⟨h0, hx⟩ | ⟨a, l', c', elems, rest, n, _, hcs, hx, _, _, _, hl, _⟩
  · simp at h0
    obtain ⟨rfl, rfl, rfl⟩ := h0
    exact Nat.zero_le _
  · simp at hcs
    obtain ⟨rfl, rfl, rfl⟩ := hcs
    have hd : d = .slice (elems.map (·.1)) (rest.map (·.1)) := congrArg Prod.fst hx
    have hb := bulkAll_ge (elems.map (·.1))
    rw [List.length_map, hl] at hb
    rw [hd, Rows.uptoBulk]
    omega
end Go.Proofs.YtlomgbackphmmaaDoor
