/- The chain's law (layer 10): the document's example; the places. -/
import Derived.Test.YtajbfjmbohkphaaChT
set_option linter.unusedVariables false
set_option linter.unusedSimpArgs false
namespace Go.Proofs.Ytajbfjmbohkphaa
open Go.RowKit

/-- The places by their numbers. -/
def hA (n : Int) : Int := 8 + 8 * (n % 3)
def nA (n : Int) : Int := 32 + 16 * (n % 14)
theorem isH_hA (n : Int) : isH (hA n) := by unfold hA isH; omega
theorem isN_nA (n : Int) : isN (nA n) := by unfold nA isN; omega
theorem head_calls (n : Int) (h0 : 0 ≤ n) (h1 : n ≤ 255) (w : World) : Calls Try.prog 18 #[.int .u8 n] w fun e w' => e = .returned (.int .i64 (hA n)) ∧ w = w' := by
  unfold hA
  go_enter Try.func18, Try.ntmps18
  go_wp2
  go_ret
  exact ⟨rfl, rfl⟩
theorem node_calls (n : Int) (h0 : 0 ≤ n) (h1 : n ≤ 255) (w : World) : Calls Try.prog 12 #[.int .u8 n] w fun e w' => e = .returned (.int .i64 (nA n)) ∧ w = w' := by
  unfold nA
  go_enter Try.func12, Try.ntmps12
  go_wp2
  go_ret
  exact ⟨rfl, rfl⟩

theorem isH8 : isH 8 := .inl rfl
theorem isH16 : isH 16 := .inr (.inl rfl)
theorem isH24 : isH 24 := .inr (.inr rfl)

/-- What a row of whole numbers holds. -/
structure Ri (w : World) (base : Nat) (A : Option Addr) (L : List Int) : Prop where
  at_ : ∀ i, i < L.length → ∃ g, A = some ⟨g, 0, none⟩ ∧ base ≤ g ∧ w.cell? ⟨g, i, none⟩ = some (.int .i64 (L.getD i 0))
theorem Ri.of_row {w : World} {base n : Nat} {v : Value} {L : List Int} (h : w.ownsRow base 3 1 v n (nums L)) (hn : n = L.length) : ∃ A c, v = .slice A n c ∧ Ri w base A L := by
  rcases h.2 with ⟨rfl, h0⟩ | ⟨g, cap, cur, rfl, hb, _⟩
  · exact ⟨none, 0, by rw [h0], ⟨fun i hi => by omega⟩⟩
  · refine ⟨_, cap, rfl, ⟨fun i hi => ⟨g, rfl, hb, ?_⟩⟩⟩
    have := h.cells rfl i (.int .i64 (L.getD i 0)) (by unfold nums; rw [List.getElem?_map, List.getElem?_eq_getElem hi, List.getD_eq_getElem?_getD, List.getElem?_eq_getElem hi]; rfl)
    unfold Addr.add at this
    split at this
    · rename_i h0; subst h0; exact this
    · rw [Nat.zero_add] at this; exact this
theorem Ri.grown {w w1 : World} {base : Nat} {A : Option Addr} {L : List Int} (h : Ri w base A L) {d : Nat} (hg : w.grownBy w1 (some d)) (hd : d < base) : Ri w1 base A L := ⟨fun i hi => by
  obtain ⟨g, e, hb, hc⟩ := h.at_ i hi
  exact ⟨g, e, hb, hg.cell hc (fun e => by injection e with e; simp at e; omega)⟩⟩
theorem Ri.below {w w1 : World} {base : Nat} {A : Option Addr} {L : List Int} (h : Ri w base A L) (hb : Below w.heap.size w w1) : Ri w1 base A L := ⟨fun i hi => by
  obtain ⟨g, e, hb', hc⟩ := h.at_ i hi
  exact ⟨g, e, hb', (hb.cell (World.block_lt_of_cell? w _ hc)).trans hc⟩⟩

set_option maxRecDepth 100000 in
set_option maxHeartbeats 2000000 in
theorem shown_calls (w : World) : Calls Try.prog 9 #[] w fun e w' => e = .returned (.bool true) ∧ Kept w w' := by
  go_enter Try.func9, Try.ntmps9
  go_wp2_with fail
  refine (fresh_cs (Kept.refl w)).mono ?_
  rintro e w1 ⟨p, d, rfl, S1⟩
  go_wp2_with fail
  refine (Push_cs S1 isH8 (n := 32) (by decide) true).mono ?_
  rintro e w2 ⟨rfl, S2, _⟩
  rw [show (if ownr (fun _ => []) 32 = 0 then (0 : Int) else 8) = 0 from by decide]
  have HS2 := Lib.hid S2
  clear S1 S2
  go_wp2_with fail
  refine (Push_cs HS2.out isH8 (n := 64) (by decide) true).mono ?_
  rintro e w3 ⟨rfl, S3, _⟩
  rw [show (if ownr (pushLs (fun _ => []) 8 32 true) 64 = 0 then (0 : Int) else 8) = 0 from by decide]
  have HS3 := Lib.hid S3
  clear S3
  go_wp2_with fail
  refine (All_cs HS3.out isH8).mono ?_
  rintro e w4 ⟨v, rfl, hrow, S4, _⟩
  rw [show pushLs (pushLs (fun _ => []) 8 32 true) 8 64 true 8 = [64, 32] from by decide] at hrow
  obtain ⟨A, c, rfl, hR⟩ := Ri.of_row hrow rfl
  have hd := HS3.out.new.2.1
  have HS4 := Lib.hid S4
  have HR4 := Lib.hid hR
  clear S4 hR hrow
  go_wp2_with fail
  refine (Push_cs HS4.out isH16 (n := 32) (by decide) true).mono ?_
  rintro e w5 ⟨rfl, S5, hg5⟩
  rw [show (if ownr (pushLs (pushLs (fun _ => []) 8 32 true) 8 64 true) 32 = 0 then (0 : Int) else 8) = 8 from by decide]
  have HS5 := Lib.hid S5
  have HR5 := Lib.hid (HR4.out.grown hg5 hd)
  clear S5 hg5
  go_wp2_with fail
  refine (Remove_cs HS5.out isH8 (n := 32) (by decide)).mono ?_
  rintro e w6 ⟨rfl, S6, hg6⟩
  rw [if_pos (show (32 : Int) ∈ pushLs (pushLs (pushLs (fun _ => []) 8 32 true) 8 64 true) 16 32 true 8 from by decide)]
  have HS6 := Lib.hid S6
  have HR6 := Lib.hid (HR5.out.grown hg6 hd)
  clear S6 hg6
  go_wp2_with fail
  refine (Pop_cs HS6.out isH8 false).mono ?_
  rintro e w7 ⟨rfl, S7, hg7⟩
  rw [show endN (remLs (pushLs (pushLs (pushLs (fun _ => []) 8 32 true) 8 64 true) 16 32 true) 8 32 8) false = 64 from by decide, if_neg (show ¬ remLs (pushLs (pushLs (pushLs (fun _ => []) 8 32 true) 8 64 true) 16 32 true) 8 32 8 = [] from by decide)]
  have HK := Lib.hid S7.kept
  have HR7 := HR6.out.grown hg7 hd
  obtain ⟨g, rfl, hgb, hc0⟩ := HR7.at_ 0 (by decide)
  obtain ⟨g', e2, _, hc1⟩ := HR7.at_ 1 (by decide)
  injection e2 with e2
  injection e2 with e2
  subst e2
  rw [show ([64, 32] : List Int).getD 0 0 = 64 from rfl] at hc0
  rw [show ([64, 32] : List Int).getD 1 0 = 32 from rfl] at hc1
  clear S7 hg7 HR7
  go_wp2
  go_ret
  exact ⟨rfl, HK.out⟩
end Go.Proofs.Ytajbfjmbohkphaa
