/- The reference of layer 10, as printed: what it answers, in the chain's own words. -/
import Derived.Test.YtajbfjmbohkphaaChRf3
import Derived.Test.YtajbfjmbohkphaaChRf4
import Derived.Test.YtajbfjmbohkphaaChRf5
import Derived.Test.YtajbfjmbohkphaaChD
set_option linter.unusedVariables false
set_option linter.unusedSimpArgs false
namespace Go.Proofs.Ytajbfjmbohkphaa.Ref
open Go.RowKit Go.Proofs.YtajbfjmbohkphaaW.PrintWords Go.Proofs.Ytajbfjmbohkphaa.PChainPlays
open Go.Proofs.Ytajbfjmbohkphaa (updL updL_eq updL_ne ownr ownr_zero pushLs remLs endN isH isN isH8 isH16 isH24 headD_mem lastD_mem)

theorem w64 {x : Int} (h0 : -9223372036854775808 ≤ x) (h1 : x ≤ 9223372036854775807) : wrap64 x = x := by unfold wrap64; omega

theorem rd_app (A B : List Int) (x : Int) : rd (A ++ x :: B) (A.length : Int) = x := by
  unfold rd
  rw [Int.toNat_natCast, List.getD_eq_getElem?_getD, List.getElem?_append_right (Nat.le_refl _), Nat.sub_self]
  rfl
theorem index_in (n : Int) : ∀ (B A : List Int) (r : Nat), A.length + B.length ≤ 1000 → turnbuckleref10_Index.l0 (r + B.length + 1) (A ++ B) n A.length = some (if n ∈ B then ((A.length + B.idxOf n : Nat) : Int) else -1)
  | [], A, r, _ => by
    rw [show r + ([] : List Int).length + 1 = r + 1 from rfl]
    simp only [turnbuckleref10_Index.l0]
    rw [if_neg (by simp), if_neg (by simp)]
  | x :: B, A, r, hl => by
    rw [List.length_cons] at hl
    rw [show r + (x :: B).length + 1 = (r + B.length + 1) + 1 from by rw [List.length_cons]; omega]
    have ih := index_in n B (A ++ [x]) r (by simp; omega)
    rw [List.append_assoc, List.length_append] at ih
    generalize r + B.length + 1 = K at *
    simp only [turnbuckleref10_Index.l0]
    rw [if_pos (by simp; omega), if_pos (by omega), rd_app]
    by_cases e : x = n
    · rw [if_pos e, if_pos (by rw [e]; exact List.mem_cons_self ..), e, List.idxOf_cons_self, Nat.add_zero]
    · rw [if_neg e, w64 (by omega) (by omega)]
      rw [show ((A.length : Int) + 1) = ((A.length + [x].length : Nat) : Int) from by simp]
      rw [show ([x] ++ B) = x :: B from rfl] at ih
      rw [ih]
      by_cases hm : n ∈ B
      · rw [if_pos hm, if_pos (List.mem_cons_of_mem _ hm), List.idxOf_cons, show (x == n) = false from beq_eq_false_iff_ne.2 e, cond_false]
        simp
        omega
      · rw [if_neg hm, if_neg (by simp; exact ⟨fun h => e h.symm, hm⟩)]
/-- A place's in a list. -/
def idx (L : List Int) (n : Int) : Int := if n ∈ L then ((L.idxOf n : Nat) : Int) else -1
theorem Index_eq (L : List Int) (n : Int) (k : Nat) (hk : L.length < k) (hl : L.length ≤ 1000) : turnbuckleref10_Index.f k L n = some (idx L n) := by
  unfold turnbuckleref10_Index.f idx
  have := index_in n L [] (k - L.length - 1) (by simpa using hl)
  rw [show k - L.length - 1 + L.length + 1 = k from by omega] at this
  simpa using this
theorem idx_nn (L : List Int) (n : Int) : 0 ≤ idx L n ↔ n ∈ L := by
  unfold idx
  split
  · exact ⟨fun _ => ‹_›, fun _ => by omega⟩
  · exact ⟨fun h => by omega, fun h => absurd h ‹_›⟩

/-- The heads; their lists. -/
def H3 : List Int := [8, 16, 24]
def O3 (ls : Int → List Int) : List (List Int) := [ls 8, ls 16, ls 24]
structure Few (ls : Int → List Int) : Prop where
  len : ∀ h, isH h → (ls h).length ≤ 14
variable {ls : Int → List Int}

theorem Owner_eq (F : Few ls) (n : Int) (k : Nat) (hk : 30 ≤ k) : turnbuckleref10_Owner.f k H3 (O3 ls) n = some (ownr ls n) := by
  obtain ⟨r, rfl⟩ : ∃ r, k = r + 1 + 1 + 1 + 1 := ⟨k - 4, by omega⟩
  unfold turnbuckleref10_Owner.f ownr
  have l8 := F.len 8 isH8
  have l16 := F.len 16 isH16
  have l24 := F.len 24 isH24
  simp only [turnbuckleref10_Owner.l0]
  rw [if_pos (by decide), if_pos (by decide), if_pos (by simp [O3]), show rd_L1 (O3 ls) 0 = ls 8 from rfl, Index_eq _ _ _ (by omega) (by omega)]
  simp only [Option.bind_some]
  by_cases m8 : n ∈ ls 8
  · rw [if_pos ((idx_nn _ _).2 m8), if_pos m8]; rfl
  rw [if_neg (fun h => m8 ((idx_nn _ _).1 h)), if_neg m8, w64 (by omega) (by omega), if_pos (by decide), if_pos (by decide), if_pos (by simp [O3]), show rd_L1 (O3 ls) (0 + 1) = ls 16 from rfl, Index_eq _ _ _ (by omega) (by omega)]
  simp only [Option.bind_some]
  by_cases m16 : n ∈ ls 16
  · rw [if_pos ((idx_nn _ _).2 m16), if_pos m16]; rfl
  rw [if_neg (fun h => m16 ((idx_nn _ _).1 h)), if_neg m16, w64 (by omega) (by omega), if_pos (by decide), if_pos (by decide), if_pos (by simp [O3]), show rd_L1 (O3 ls) (0 + 1 + 1) = ls 24 from rfl, Index_eq _ _ _ (by omega) (by omega)]
  simp only [Option.bind_some]
  by_cases m24 : n ∈ ls 24
  · rw [if_pos ((idx_nn _ _).2 m24), if_pos m24]; rfl
  rw [if_neg (fun h => m24 ((idx_nn _ _).1 h)), if_neg m24, w64 (by omega) (by omega), if_neg (by decide)]

theorem heads_idx {h : Int} (hh : isH h) (k : Nat) (hk : 30 ≤ k) : turnbuckleref10_Index.f k H3 h = some (h / 8 - 1) := by
  rw [Index_eq _ _ _ (by rw [show H3.length = 3 from rfl]; omega) (by decide)]
  rcases hh with rfl | rfl | rfl <;> rfl
theorem Of_eq {h : Int} (hh : isH h) (k : Nat) (hk : 30 ≤ k) : turnbuckleref10_Of.f k H3 (O3 ls) h = some (ls h) := by
  unfold turnbuckleref10_Of.f
  rw [heads_idx hh k hk]
  simp only [Option.bind_some]
  unfold isH at hh
  rw [if_neg (by omega), if_pos (by omega), if_pos (by show _ < ((3 : Nat) : Int); omega)]
  rcases hh with rfl | rfl | rfl <;> rfl
theorem Of_zero (k : Nat) (hk : 30 ≤ k) : turnbuckleref10_Of.f k H3 (O3 ls) 0 = some [] := by
  unfold turnbuckleref10_Of.f
  rw [Index_eq _ _ _ (by rw [show H3.length = 3 from rfl]; omega) (by decide)]
  rfl
theorem With_eq {h : Int} (hh : isH h) (L : List Int) (k : Nat) (hk : 30 ≤ k) : turnbuckleref10_With.f k H3 (O3 ls) h L = some (H3, O3 (updL ls h L)) := by
  unfold turnbuckleref10_With.f
  simp only [Option.bind_some]
  rw [if_pos (by simp [O3]), heads_idx hh k hk]
  simp only [Option.bind_some, List.nil_append]
  have hh' := hh
  unfold isH at hh'
  rw [if_pos (by omega), if_pos (by omega), if_pos (by show _ < ((3 : Nat) : Int); omega)]
  rcases hh with rfl | rfl | rfl
  · congr 2
  · congr 2
  · congr 2
theorem updL_self (h : Int) : updL ls h (ls h) = ls := funext (fun x => by
  by_cases e : x = h
  · rw [updL_eq e, e]
  · rw [updL_ne e])

theorem Push_eq (F : Few ls) {h : Int} (hh : isH h) (n : Int) (front : Bool) (k : Nat) (hk : 30 ≤ k) :
    turnbuckleref10_Push.f k H3 (O3 ls) h n front = some (H3, O3 (pushLs ls h n front), if ownr ls n = 0 then 0 else 8) := by
  unfold turnbuckleref10_Push.f pushLs
  have hl := F.len h hh
  rw [Owner_eq F n k hk]
  simp only [Option.bind_some]
  by_cases h0 : ownr ls n = 0
  · rw [if_pos h0, if_pos h0, if_pos h0, Of_eq hh k hk]
    simp only [Option.bind_some]
    cases front
    · rw [if_neg (by simp), if_pos (by simp; omega), if_pos (by simp; omega), With_eq hh _ k hk, if_neg (by simp)]
      simp
    · rw [if_pos rfl, if_pos (by simp; omega), With_eq hh _ k hk, if_pos rfl]
      simp
  · rw [if_neg h0, if_neg h0, if_neg h0]
theorem Remove_eq (F : Few ls) {h : Int} (hh : isH h) (n : Int) (k : Nat) (hk : 30 ≤ k) :
    turnbuckleref10_Remove.f k H3 (O3 ls) h n = some (H3, O3 (remLs ls h n), if n ∈ ls h then 0 else 8) := by
  unfold turnbuckleref10_Remove.f remLs
  have hl := F.len h hh
  rw [Of_eq hh k hk]
  simp only [Option.bind_some]
  rw [Index_eq _ _ _ (by omega) (by omega)]
  simp only [Option.bind_some]
  by_cases hm : n ∈ ls h
  · have hi := List.idxOf_lt_length_of_mem hm
    unfold idx
    rw [if_pos hm, if_pos hm, if_neg (by omega), if_pos (by omega), if_pos (by omega), w64 (by omega) (by omega), if_pos (by simp; omega), if_pos (by omega), if_pos (by omega), if_pos (by simp; omega), With_eq hh _ k hk]
    simp only [Option.bind_some, List.nil_append, Int.toNat_natCast]
    rw [show (((ls h).idxOf n : Int) + 1).toNat = (ls h).idxOf n + 1 from by omega, List.erase_eq_eraseIdx_of_idxOf rfl, List.eraseIdx_eq_take_drop_succ]
  · have h1 : idx (ls h) n < 0 := Int.not_le.1 (fun h' => hm ((idx_nn _ _).1 h'))
    rw [if_pos h1, if_neg hm, List.erase_of_not_mem hm, updL_self]
theorem rd_head (L : List Int) (hn : L ≠ []) : rd L 0 = L.headD 0 := by
  cases L with
  | nil => exact absurd rfl hn
  | cons x t => rfl
theorem rd_last (L : List Int) (hn : L ≠ []) : rd L ((L.length : Int) - 1) = L.getLastD 0 := by
  have hp := List.length_pos_iff.2 hn
  unfold rd
  rw [show ((L.length : Int) - 1).toNat = L.length - 1 from by omega, List.getD_eq_getElem?_getD, List.getLastD_eq_getLast?, List.getLast?_eq_getElem?]
theorem End_eq (F : Few ls) {h : Int} (hh : isH h) (front : Bool) (k : Nat) (hk : 30 ≤ k) : turnbuckleref10_End.f k H3 (O3 ls) h front = some (endN (ls h) front) := by
  unfold turnbuckleref10_End.f endN
  have hl := F.len h hh
  rw [Of_eq hh k hk]
  simp only [Option.bind_some]
  by_cases hz : ls h = []
  · rw [hz]; cases front <;> rfl
  · have hp := List.length_pos_iff.2 hz
    rw [if_neg (by omega)]
    cases front
    · simp only [Bool.false_eq_true, if_false]
      rw [w64 (by omega) (by omega), if_pos (by omega), if_pos (by omega), rd_last _ hz]
    · rw [if_pos rfl, if_pos rfl, if_pos (by omega), rd_head _ hz]
theorem Pop_eq (F : Few ls) {h : Int} (hh : isH h) (hn : ∀ x ∈ ls h, isN x) (front : Bool) (k : Nat) (hk : 30 ≤ k) :
    turnbuckleref10_Pop.f k H3 (O3 ls) h front = some (H3, O3 (remLs ls h (endN (ls h) front)), endN (ls h) front, if ls h = [] then 6 else 0) := by
  unfold turnbuckleref10_Pop.f
  rw [End_eq F hh front k hk]
  simp only [Option.bind_some]
  by_cases hz : ls h = []
  · have h0 : endN (ls h) front = 0 := by rw [hz]; cases front <;> rfl
    rw [if_pos h0, if_pos hz, h0]
    unfold remLs
    rw [hz, show ([] : List Int).erase 0 = ls h from by rw [hz]; rfl, updL_self]
  · have hm := Go.Proofs.Ytajbfjmbohkphaa.endN_mem hz front
    have h0 : endN (ls h) front ≠ 0 := by have := hn _ hm; unfold isN at this; omega
    rw [if_neg h0, if_neg hz, Remove_eq F hh _ k hk]
    rfl
theorem Next_in_eq (F : Few ls) {h n : Int} (hh : isH h) (ho : ownr ls n = h) {X Y : List Int} (hL : ls h = X ++ n :: Y) (hX : n ∉ X) (front : Bool) (k : Nat) (hk : 30 ≤ k) :
    turnbuckleref10_Next.f k H3 (O3 ls) n front = some (if front then Y.headD 0 else X.getLastD 0) := by
  unfold turnbuckleref10_Next.f
  have hl := F.len h hh
  have hi : idx (ls h) n = (X.length : Int) := by
    unfold idx
    rw [hL, if_pos (by simp), List.idxOf_append, if_neg hX, List.idxOf_cons_self, Nat.zero_add]
  rw [Owner_eq F n k hk, ho]
  simp only [Option.bind_some]
  rw [Of_eq hh k hk]
  simp only [Option.bind_some]
  rw [Index_eq _ _ _ (by omega) (by omega), hi]
  simp only [Option.bind_some]
  rw [hL, List.length_append, List.length_cons] at hl
  rw [if_neg (by omega), hL, List.length_append, List.length_cons]
  cases front
  · simp only [Bool.false_eq_true, if_false]
    rw [w64 (by omega) (by omega)]
    cases hX' : X with
    | nil => rfl
    | cons x t =>
      rw [← hX']
      have hp : 0 < X.length := by rw [hX']; simp
      rw [if_neg (by omega), if_neg (by omega), if_pos (by omega), if_pos (by omega), ← rd_last X (by rw [hX']; simp)]
      unfold rd
      rw [List.getD_eq_getElem?_getD, List.getD_eq_getElem?_getD, List.getElem?_append_left (by omega)]
  · rw [if_pos rfl, if_pos rfl, w64 (by omega) (by omega), if_neg (by omega)]
    cases Y with
    | nil => rw [if_pos (by simp)]; rfl
    | cons y t =>
      rw [List.length_cons, if_neg (by omega), if_pos (by omega), if_pos (by omega)]
      have := rd_app (X ++ [n]) t y
      rw [List.append_assoc, List.length_append] at this
      exact congrArg some this
theorem Next_free_eq (F : Few ls) {n : Int} (ho : ownr ls n = 0) (front : Bool) (k : Nat) (hk : 30 ≤ k) : turnbuckleref10_Next.f k H3 (O3 ls) n front = some 0 := by
  unfold turnbuckleref10_Next.f
  rw [Owner_eq F n k hk, ho]
  simp only [Option.bind_some]
  rw [Of_zero k hk]
  simp only [Option.bind_some]
  rw [Index_eq _ _ _ (by show 0 < k; omega) (by decide)]
  rfl
theorem same_in : ∀ (B A : List Int) (r : Nat), A.length + B.length ≤ 1000 → turnbuckleref04_Same.l0 (r + B.length + 1) (A ++ B) (A ++ B) A.length = some true
  | [], A, r, _ => by
    rw [show r + ([] : List Int).length + 1 = r + 1 from rfl]
    simp only [turnbuckleref04_Same.l0]
    rw [if_neg (by simp)]
  | x :: B, A, r, hl => by
    rw [List.length_cons] at hl
    rw [show r + (x :: B).length + 1 = (r + B.length + 1) + 1 from by rw [List.length_cons]; omega]
    have ih := same_in B (A ++ [x]) r (by simp; omega)
    rw [List.append_assoc, List.length_append] at ih
    generalize r + B.length + 1 = K at *
    simp only [turnbuckleref04_Same.l0]
    rw [if_pos (by simp; omega), if_pos (by omega), if_pos (by simp; omega), if_pos trivial, w64 (by omega) (by omega), show ((A.length : Int) + 1) = ((A.length + [x].length : Nat) : Int) from by simp]
    exact ih
theorem Same_eq (L : List Int) (k : Nat) (hk : L.length < k) (hl : L.length ≤ 1000) : turnbuckleref04_Same.f k L L = some true := by
  unfold turnbuckleref04_Same.f
  rw [if_pos rfl]
  have := same_in L [] (k - L.length - 1) (by simpa using hl)
  rw [show k - L.length - 1 + L.length + 1 = k from by omega] at this
  exact this
theorem Make_eq : turnbuckleref10_Make.f H3 = some (H3, O3 (fun _ => [])) := by rfl
end Go.Proofs.Ytajbfjmbohkphaa.Ref
