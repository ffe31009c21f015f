/- insn.words: the words themselves. -/
import Derived.Test.YtlomgbackphmmaaDoorInG
import Derived.Test.YtlomgbackphmmaaDoorInC2
set_option linter.unusedVariables false
set_option linter.unusedSimpArgs false
namespace Go.Proofs.YtlomgbackphmmaaDoor
open Go.RowKit

def wAlu : List ByteArray := [⟨#[]⟩, ⟨#[97, 100, 100]⟩, ⟨#[115, 117, 98]⟩, ⟨#[109, 117, 108]⟩, ⟨#[100, 105, 118]⟩, ⟨#[109, 111, 100]⟩, ⟨#[97, 110, 100]⟩, ⟨#[111, 114]⟩, ⟨#[120, 111, 114]⟩, ⟨#[115, 104, 108]⟩, ⟨#[115, 104, 114]⟩, ⟨#[115, 97, 114]⟩]
def wCond : List ByteArray := [⟨#[]⟩, ⟨#[101, 113]⟩, ⟨#[110, 101]⟩, ⟨#[108, 116]⟩, ⟨#[108, 101]⟩, ⟨#[103, 116]⟩, ⟨#[103, 101]⟩, ⟨#[115, 108, 116]⟩, ⟨#[115, 103, 101]⟩, ⟨#[115, 101, 116]⟩]
def wCall : List ByteArray := [⟨#[]⟩, ⟨#[110, 101, 119]⟩, ⟨#[100, 114, 111, 112]⟩, ⟨#[97, 99, 113, 117, 105, 114, 101]⟩, ⟨#[108, 111, 111, 107, 117, 112]⟩, ⟨#[105, 110, 115, 101, 114, 116]⟩, ⟨#[100, 101, 108, 101, 116, 101]⟩, ⟨#[108, 111, 99, 107]⟩, ⟨#[117, 110, 108, 111, 99, 107]⟩, ⟨#[112, 117, 115, 104, 102, 114, 111, 110, 116]⟩, ⟨#[112, 117, 115, 104, 98, 97, 99, 107]⟩, ⟨#[112, 111, 112, 102, 114, 111, 110, 116]⟩, ⟨#[112, 111, 112, 98, 97, 99, 107]⟩, ⟨#[102, 114, 111, 110, 116]⟩, ⟨#[116, 114, 101, 101, 97, 100, 100]⟩, ⟨#[116, 114, 101, 101, 102, 105, 114, 115, 116]⟩, ⟨#[116, 114, 101, 101, 108, 101, 102, 116]⟩, ⟨#[116, 114, 101, 101, 114, 105, 103, 104, 116]⟩, ⟨#[116, 114, 101, 101, 103, 111, 110, 101]⟩, ⟨#[115, 119, 97, 112]⟩, ⟨#[112, 101, 101, 107]⟩, ⟨#[114, 99, 117, 108, 111, 99, 107]⟩, ⟨#[114, 99, 117, 117, 110, 108, 111, 99, 107]⟩]
def wl (op : Int) : List ByteArray := if op = 3 ∨ op = 4 then wAlu else if op = 6 ∨ op = 7 then wCond else if op = 14 then wCall else []
set_option maxRecDepth 100000 in
set_option maxHeartbeats 1000000 in
theorem words_are (op : Int) (w : World) (h : op = 3 ∨ op = 4 ∨ op = 6 ∨ op = 7 ∨ op = 14) : Calls Tryd.prog 23 #[.int .u8 op] w fun e w' => e = .returned (.slice (some ⟨w.heap.size, 0, none⟩) (wl op).length (wl op).length) ∧ w' = w.alloc (.cells ((wl op).map Value.string).toArray 9) := by
  rcases h with rfl | rfl | rfl | rfl | rfl
  all_goals
    go_enter Tryd.func23, Tryd.ntmps23
    go_wp2
    go_ret
    exact ⟨rfl, rfl⟩
end Go.Proofs.YtlomgbackphmmaaDoor
