/- The flow's law (layer 16): the document's examples. -/
import Derived.Test.YtaomlfnffnapmaaFlL
set_option linter.unusedVariables false
set_option linter.unusedSimpArgs false
namespace Go.Proofs.Ytaomlfnffnapmaa
open Go.RowKit

structure Kept (w0 w : World) : Prop where
  below : Below w0.heap.size w0 w
theorem Kept.refl (w : World) : Kept w w := ⟨Below.refl _ _⟩
theorem Kept.then_ {w0 w w1 : World} (S : Kept w0 w) (k : Below w.heap.size w w1) : Kept w0 w1 := ⟨S.below.trans (k.mono S.below.size)⟩

/-- A slice of a block whose cells are known. -/
theorem Pr.of_block {w : World} {g o : Nat} {cs : Array Value} {t : TypeId} {fr : Nat × Nat} {L : List Ins} (hb : w.heap[g]? = some (.cells cs t fr)) (hc : ∀ i, i < L.length → ∀ j v, (L.getD i z0).cells[j]? = some v → cs[o + (i * 5 + j)]? = some v) (hok : ∀ x ∈ L, x.Ok) : Pr w (some ⟨g, o, none⟩) L :=
  ⟨fun i hi => ⟨_, rfl, (Array.getElem?_eq_some_iff.1 hb).1, fun j v hv => by
    rw [show (⟨g, o, none⟩ : Addr).add (i * 5 + j) = ⟨g, o + (i * 5 + j), none⟩ from by unfold Addr.add; split <;> simp_all]
    rw [cell_of_row w g _ cs t fr hb]
    exact hc i hi j v hv⟩, hok⟩
/-- What a row of whole numbers holds. -/
structure Ri (w : World) (A : Option Addr) (L : List Int) : Prop where
  at_ : ∀ i, i < L.length → ∃ g, A = some ⟨g, 0, none⟩ ∧ w.cell? ⟨g, i, none⟩ = some (.int .i64 (L.getD i 0))
theorem Ri.of_row {w : World} {base n : Nat} {v : Value} {L : List Int} (h : w.ownsRow base 3 1 v n (L.map (Value.int .i64))) (hn : n = L.length) : ∃ A c, v = .slice A n c ∧ Ri w A L := by
  rcases h.2 with ⟨rfl, h0⟩ | ⟨g, cap, cur, rfl, hb, _⟩
  · exact ⟨none, 0, by rw [h0], ⟨fun i hi => by omega⟩⟩
  · refine ⟨_, cap, rfl, ⟨fun i hi => ⟨g, rfl, ?_⟩⟩⟩
    have := h.cells rfl i (.int .i64 (L.getD i 0)) (by rw [List.getElem?_map, List.getElem?_eq_getElem hi, List.getD_eq_getElem?_getD, List.getElem?_eq_getElem hi]; rfl)
    unfold Addr.add at this
    split at this
    · rename_i h0; subst h0; exact this
    · rw [Nat.zero_add] at this; exact this
theorem Ri.below {w w1 : World} {A : Option Addr} {L : List Int} (h : Ri w A L) (hb : Below w.heap.size w w1) : Ri w1 A L := ⟨fun i hi => by
  obtain ⟨g, e, hc⟩ := h.at_ i hi
  exact ⟨g, e, (hb.cell (World.block_lt_of_cell? w _ hc)).trans hc⟩⟩

def shP : List Ins := [⟨7, 1, 0, 1, 2⟩, ⟨2, 0, 0, 0, 1⟩, ⟨15, 0, 0, 0, 0⟩]
def shQ : List Ins := [⟨5, 0, 0, 0, 2⟩, ⟨15, 0, 0, 0, 0⟩, ⟨15, 0, 0, 0, 0⟩]
theorem shP_nx : nx shP 0 = [1, 2] := by decide
theorem shP_ah : ah shP 2 = [0, 1] := by decide
theorem shP_lng : lng shP = (3, 0) := by decide
theorem shQ_chk : fchk shQ = (1, 10) := by decide
theorem shR_chk : fchk [⟨2, 0, 0, 0, 1⟩] = (0, 10) := by decide

abbrev shPc : Array Value := #[.int .u8 7, .int .u8 1, .int .u8 0, .int .u8 1, .int .u32 2, .int .u8 2, .int .u8 0, .int .u8 0, .int .u8 0, .int .u32 1, .int .u8 15, .int .u8 0, .int .u8 0, .int .u8 0, .int .u32 0]
abbrev shQc : Array Value := #[.int .u8 5, .int .u8 0, .int .u8 0, .int .u8 0, .int .u32 2, .int .u8 15, .int .u8 0, .int .u8 0, .int .u8 0, .int .u32 0, .int .u8 15, .int .u8 0, .int .u8 0, .int .u8 0, .int .u32 0]
theorem p3_at : ∀ i, i < shP.length → ∀ j v, (shP.getD i z0).cells[j]? = some v → shPc[0 + (i * 5 + j)]? = some v := by
  intro i hi j v hv
  have hj : j < 5 := (Array.getElem?_eq_some_iff.1 hv).1
  have h5 : j = 0 ∨ j = 1 ∨ j = 2 ∨ j = 3 ∨ j = 4 := by omega
  have h3 : i = 0 ∨ i = 1 ∨ i = 2 := by have : i < 3 := hi; omega
  rcases h3 with rfl | rfl | rfl <;> rcases h5 with rfl | rfl | rfl | rfl | rfl <;> exact hv
theorem q3_at : ∀ i, i < shQ.length → ∀ j v, (shQ.getD i z0).cells[j]? = some v → shQc[0 + (i * 5 + j)]? = some v := by
  intro i hi j v hv
  have hj : j < 5 := (Array.getElem?_eq_some_iff.1 hv).1
  have h5 : j = 0 ∨ j = 1 ∨ j = 2 ∨ j = 3 ∨ j = 4 := by omega
  have h3 : i = 0 ∨ i = 1 ∨ i = 2 := by have : i < 3 := hi; omega
  rcases h3 with rfl | rfl | rfl <;> rcases h5 with rfl | rfl | rfl | rfl | rfl <;> exact hv
theorem shP_pr {w : World} {g : Nat} (hb : w.heap[g]? = some (.cells shPc 37 (0, 0))) : Pr w (some ⟨g, 0, none⟩) shP :=
  Pr.of_block hb p3_at (fun x hx => by
    simp [shP] at hx
    rcases hx with rfl | rfl | rfl <;> constructor <;> decide)
theorem shQ_pr {w : World} {g : Nat} (hb : w.heap[g]? = some (.cells shQc 37 (0, 0))) : Pr w (some ⟨g, 0, none⟩) shQ :=
  Pr.of_block hb q3_at (fun x hx => by
    simp [shQ] at hx
    rcases hx with rfl | rfl | rfl <;> constructor <;> decide)
theorem shR_pr {w : World} {g : Nat} (hb : w.heap[g]? = some (.cells shPc 37 (0, 0))) : Pr w (some ⟨g, 5, none⟩) [⟨2, 0, 0, 0, 1⟩] :=
  Pr.of_block hb (fun i hi j v hv => by
    have hj : j < 5 := (Array.getElem?_eq_some_iff.1 hv).1
    have h5 : j = 0 ∨ j = 1 ∨ j = 2 ∨ j = 3 ∨ j = 4 := by omega
    obtain rfl : i = 0 := by simpa using hi
    rcases h5 with rfl | rfl | rfl | rfl | rfl <;> exact hv) (fun x hx => by
    simp at hx
    subst hx
    constructor <;> decide)

set_option maxRecDepth 100000 in
set_option maxHeartbeats 2000000 in
theorem shown_calls (w : World) : Calls Try.prog 9 #[] w fun e w' => e = .returned (.bool true) ∧ Kept w w' := by
  go_enter Try.func9, Try.ntmps9
  go_wp2_with fail
  have hb1 : (w.alloc (.cells shPc 37)).heap[w.heap.size]? = some (.cells shPc 37 (0, 0)) := World.alloc_heap_new w _
  have hK1 : Kept w (w.alloc (.cells shPc 37)) := ⟨(Below.refl _ w).alloc (Nat.le_refl _) _⟩
  have HB1 := Lib.hid hb1
  have HK1 := Lib.hid hK1
  clear hb1 hK1
  refine (Next_any _ 3 shP 0 _ (by decide) (shP_pr HB1.out)).mono ?_
  rintro e w2 ⟨v2, rfl, hr2, hB2⟩
  rw [shP_nx] at hr2
  obtain ⟨A2, c2, rfl, hR2⟩ := Ri.of_row hr2 rfl
  have hlt1 : w.heap.size < (w.alloc (.cells shPc 37)).heap.size := by simp
  have HB2 := Lib.hid ((hB2.block _ hlt1).trans HB1.out)
  have HK2 := Lib.hid (HK1.out.then_ hB2)
  have HR2 := Lib.hid hR2
  clear hr2 hB2 hR2 hlt1
  go_wp2_with fail
  refine (Ahead_any _ 3 shP 2 _ (by decide) (shP_pr HB2.out)).mono ?_
  rintro e w3 ⟨v3, rfl, hr3, hB3⟩
  rw [shP_ah] at hr3
  obtain ⟨A3, c3, rfl, hR3⟩ := Ri.of_row hr3 rfl
  have HB3 := Lib.hid ((hB3.block _ (Array.getElem?_eq_some_iff.1 HB2.out).1).trans HB2.out)
  have HK3 := Lib.hid (HK2.out.then_ hB3)
  have HR23 := Lib.hid (HR2.out.below hB3)
  have HR3 := Lib.hid hR3
  clear hr3 hB3 hR3 HR2
  go_wp2_with fail
  refine (Longest_any _ 3 shP _ (shP_pr HB3.out)).mono ?_
  rintro e w4 ⟨rfl, hB4⟩
  rw [shP_lng]
  have HB4 := Lib.hid ((hB4.block _ (Array.getElem?_eq_some_iff.1 HB3.out).1).trans HB3.out)
  have HK4 := Lib.hid (HK3.out.then_ hB4)
  have HR24 := Lib.hid (HR23.out.below hB4)
  have HR34 := Lib.hid (HR3.out.below hB4)
  clear hB4 HR23 HR3
  go_wp2_with fail
  have hBa : Below w4.heap.size w4 (w4.alloc (.cells shQc 37)) := (Below.refl _ w4).alloc (Nat.le_refl _) _
  have HQ := Lib.hid (World.alloc_heap_new w4 (.cells shQc 37))
  have HB5 := Lib.hid ((hBa.block _ (Array.getElem?_eq_some_iff.1 HB4.out).1).trans HB4.out)
  have HK5 := Lib.hid (HK4.out.then_ hBa)
  have HR25 := Lib.hid (HR24.out.below hBa)
  have HR35 := Lib.hid (HR34.out.below hBa)
  clear hBa HR24 HR34
  refine (Check_whole _ 3 shQ _ (shQ_pr HQ.out)).mono ?_
  rintro e w6 ⟨rfl, hB6⟩
  rw [shQ_chk]
  have HB6 := Lib.hid ((hB6.block _ (Array.getElem?_eq_some_iff.1 HB5.out).1).trans HB5.out)
  have HK6 := Lib.hid (HK5.out.then_ hB6)
  have HR26 := Lib.hid (HR25.out.below hB6)
  have HR36 := Lib.hid (HR35.out.below hB6)
  clear hB6 HR25 HR35
  go_wp2_with fail
  refine (Check_whole _ _ [⟨2, 0, 0, 0, 1⟩] _ (shR_pr HB6.out)).mono ?_
  rintro e w7 ⟨rfl, hB7⟩
  rw [shR_chk]
  have HK7 := Lib.hid (HK6.out.then_ hB7)
  have hR27 := HR26.out.below hB7
  have hR37 := HR36.out.below hB7
  obtain ⟨g, rfl, hc0⟩ := hR27.at_ 0 (by decide)
  obtain ⟨g', e2, hc1⟩ := hR27.at_ 1 (by decide)
  injection e2 with e2
  injection e2 with e2
  subst e2
  obtain ⟨h, rfl, hd0⟩ := hR37.at_ 0 (by decide)
  obtain ⟨h', e3, hd1⟩ := hR37.at_ 1 (by decide)
  injection e3 with e3
  injection e3 with e3
  subst e3
  rw [show ([1, 2] : List Int).getD 0 0 = 1 from rfl] at hc0
  rw [show ([1, 2] : List Int).getD 1 0 = 2 from rfl] at hc1
  rw [show ([0, 1] : List Int).getD 0 0 = 0 from rfl] at hd0
  rw [show ([0, 1] : List Int).getD 1 0 = 1 from rfl] at hd1
  clear hB7 hR27 hR37
  go_wp2
  (try go_quiet (fail))
  (try go_wp2)
  go_ret
  exact ⟨rfl, HK7.out⟩
end Go.Proofs.Ytaomlfnffnapmaa
