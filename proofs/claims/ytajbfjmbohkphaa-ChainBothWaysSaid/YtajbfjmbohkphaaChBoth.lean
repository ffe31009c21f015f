/- ChainBothWays: read from its last node a list is the same turned about; owners; nodes in no list. -/
import Derived.Test.YtajbfjmbohkphaaChD
import Derived.BigQuiet
set_option linter.unusedVariables false
set_option linter.unusedSimpArgs false
namespace Go.Proofs.Ytajbfjmbohkphaa
open Go.RowKit

/-- The nodes of the first k that are in a list. -/
def ownL (ls : Int → List Int) (k : Nat) : List Int := ((List.range k).map (fun j : Nat => nA (j : Int))).filter (fun x => ownr ls x != 0)
theorem ownL_next (ls : Int → List Int) (k : Nat) : ((ownL ls (k + 1)).length : Int) = (ownL ls k).length + if ownr ls (nA (k : Int)) = 0 then 0 else 1 := by
  unfold ownL
  rw [List.range_succ, List.map_append, List.filter_append, List.length_append]
  by_cases h : ownr ls (nA (k : Int)) = 0
  · rw [if_pos h]; simp [h]
  · rw [if_neg h]; simp [h]
theorem ownL_all {W w : World} {p d : Nat} {ls : Int → List Int} (S : Cs W w p d ls) : (ownL ls 14).length = (ls 8).length + (ls 16).length + (ls 24).length := by
  obtain ⟨bs, G, O, A, R⟩ := S.ex
  have dis : ∀ h h', isH h → isH h' → h ≠ h' → ∀ x ∈ ls h, ∀ y ∈ ls h', x ≠ y := fun h h' hh hh' hne x hx y hy e => hne (by subst e; exact R.one hh hh' hx hy)
  have nd : (ls 8 ++ (ls 16 ++ ls 24)).Nodup := by
    refine List.nodup_append.2 ⟨R.nd 8 isH8, List.nodup_append.2 ⟨R.nd 16 isH16, R.nd 24 isH24, dis 16 24 isH16 isH24 (by omega)⟩, fun x hx y hy => ?_⟩
    rcases List.mem_append.1 hy with hy | hy
    · exact dis 8 16 isH8 isH16 (by omega) x hx y hy
    · exact dis 8 24 isH8 isH24 (by omega) x hx y hy
  have nd2 : (ownL ls 14).Nodup := by
    unfold ownL
    exact List.Pairwise.filter _ (show ((List.range 14).map (fun j : Nat => nA (j : Int))).Nodup by decide)
  have hp := (List.perm_ext_iff_of_nodup nd2 nd).2 (fun x => by
    unfold ownL
    rw [List.mem_filter, List.mem_map]
    constructor
    · rintro ⟨_, h⟩
      have h0 : ownr ls x ≠ 0 := by simpa using h
      by_cases h8 : x ∈ ls 8
      · exact List.mem_append.2 (.inl h8)
      by_cases h16 : x ∈ ls 16
      · exact List.mem_append.2 (.inr (List.mem_append.2 (.inl h16)))
      by_cases h24 : x ∈ ls 24
      · exact List.mem_append.2 (.inr (List.mem_append.2 (.inr h24)))
      · exact absurd (ownr_zero.2 (fun h hh => by rcases hh with rfl | rfl | rfl <;> assumption)) h0
    · intro hx
      have : ∃ h, isH h ∧ x ∈ ls h := by
        rcases List.mem_append.1 hx with h | h
        · exact ⟨8, isH8, h⟩
        rcases List.mem_append.1 h with h | h
        · exact ⟨16, isH16, h⟩
        · exact ⟨24, isH24, h⟩
      obtain ⟨h, hh, hx⟩ := this
      have hn := (R.own hh hx).1
      have ho := (R.own_iff hh).2 hx
      refine ⟨⟨(x / 16 - 2).toNat, ?_, ?_⟩, ?_⟩
      · unfold isN at hn; rw [List.mem_range]; omega
      · unfold isN at hn; unfold nA; omega
      · rw [ho]; unfold isH at hh; simp; omega)
  rw [hp.length_eq]
  simp
  omega
/-- How long the first k lists are. -/
def totL (ls : Int → List Int) : Nat → Int
  | 0 => 0
  | k + 1 => totL ls k + (ls (hA (k : Int))).length
theorem totL_3 (ls : Int → List Int) : totL ls 3 = (ls 8).length + (ls 16).length + (ls 24).length := by
  show (((0 : Int) + (ls (hA ((0 : Nat) : Int))).length) + (ls (hA ((1 : Nat) : Int))).length) + (ls (hA ((2 : Nat) : Int))).length = _
  rw [show hA ((0 : Nat) : Int) = 8 from rfl, show hA ((1 : Nat) : Int) = 16 from rfl, show hA ((2 : Nat) : Int) = 24 from rfl]
  omega
theorem totL_nn (ls : Int → List Int) : ∀ k, 0 ≤ totL ls k
  | 0 => by unfold totL; omega
  | k + 1 => by have := totL_nn ls k; unfold totL; omega

theorem totL_le {W w : World} {p d : Nat} {ls : Int → List Int} (S : Cs W w p d ls) : ∀ k : Nat, totL ls k ≤ 14 * k
  | 0 => by unfold totL; omega
  | k + 1 => by have h1 := totL_le S k; have h2 := S.len (isH_hA (k : Int)); unfold totL; omega
theorem Next_some {W w : World} {p d : Nat} {ls : Int → List Int} (S : Cs W w p d ls) {n : Int} (hn : isN n) (front : Bool) :
    Calls Try.prog 25 #[.pointer (some ⟨p, 0, none⟩), .int .i64 n, .bool front] w fun e w' =>
      (∃ v : Int, e = .returned (.tuple #[.int .i64 v, .int .i64 0])) ∧ Cs W w' p d ls := by
  obtain ⟨bs, G, O, A, R⟩ := S.ex
  refine (Next_any n front w O.ar).mono ?_
  rintro e w' ⟨rfl, L⟩
  rw [inn_n A.1 hn, if_pos rfl, if_pos rfl]
  exact ⟨⟨_, rfl⟩, ⟨_, G, O.grown L.ar L.gr, A, R⟩⟩
theorem Next_back {W w : World} {p d : Nat} {ls : Int → List Int} (S : Cs W w p d ls) {h n : Int} (hh : isH h) {X Y : List Int} (hL : ls h = X ++ n :: Y) :
    Calls Try.prog 25 #[.pointer (some ⟨p, 0, none⟩), .int .i64 n, .bool false] w fun e w' =>
      e = .returned (.tuple #[.int .i64 (X.getLastD 0), .int .i64 0]) ∧ Cs W w' p d ls ∧ w.grownBy w' (some d) := Next_in S hh hL false
/-- A list parts at a node. -/
theorem parts (L : List Int) (q : Nat) (h : q < L.length) : L = L.take q ++ L.getD q 0 :: L.drop (q + 1) := by
  rw [List.getD_eq_getElem?_getD, List.getElem?_eq_getElem h, Option.getD_some, List.getElem_cons_drop, List.take_append_drop]
theorem last_take (L : List Int) (q : Nat) (h : q < L.length) : (L.take (q + 1)).getLastD 0 = L.getD q 0 := by
  rw [List.take_succ_eq_append_getElem h, List.getLastD_eq_getLast?, List.getLast?_append, List.getD_eq_getElem?_getD, List.getElem?_eq_getElem h]
  rfl

set_option maxRecDepth 100000 in
set_option maxHeartbeats 4000000 in
theorem ChainBothWays_calls (A : Option Addr) (len cap : Nat) (fk fh fn : Nat → Int) (w : World) (hlen : len ≤ 9223372036854775807) (hD : Deeds w A len fk fh fn) :
    Calls Try.prog 6 #[.slice A len cap] w fun e w' => e = .returned (.bool true) ∧ Kept w w' := by
  have HD := Lib.hid hD
  clear hD
  go_enter Try.func6, Try.ntmps6
  go_wp2_with fail
  refine (shown_calls _).mono ?_
  rintro e w1 ⟨rfl, K1⟩
  go_wp2_with fail
  refine (fresh_cs K1).mono ?_
  rintro e w2 ⟨p, d, rfl, S2⟩
  have HS2 := Lib.hid S2
  clear S2 K1
  go_wp2_with fail
  go_loopw [5, 6, 7] (fun v _ _ wr => ∃ (k : Nat) (ls : Int → List Int), k ≤ 80 ∧ v = .int .i64 (k : Int) ∧ Cs w wr p d ls) (fun v _ _ _ => 80 - (intOf v).toNat)
  case atStart => exact ⟨0, _, by omega, rfl, HS2.out⟩
  case round =>
    clear HS2
    obtain ⟨k, ls, hk, rfl, hS⟩ := hrel
    have HS := Lib.hid hS
    clear hS
    by_cases hlt : k < len ∧ k < 80
    · obtain ⟨hlt1, hlt2⟩ := hlt
      obtain ⟨ad, rfl, hck, hch, hcn, ⟨bh0, bh1⟩, ⟨bn0, bn1⟩, ⟨bk0, bk1⟩⟩ := (HD.out.below HS.out.kept.below).at_ k hlt1
      generalize fk k = K at *
      generalize fh k = H at *
      generalize fn k = n at *
      by_cases h0 : K = 0
      · subst h0
        go_wp2_with fail
        refine (head_calls H bh0 bh1 _).mono ?_
        rintro e w3 ⟨rfl, rfl⟩
        go_wp2_with fail
        refine (node_calls n bn0 bn1 _).mono ?_
        rintro e w3 ⟨rfl, rfl⟩
        go_wp2_with fail
        refine (Push_cs HS.out (isH_hA H) (isN_nA n) _).mono ?_
        rintro e w4 ⟨rfl, S4, _⟩
        have HS4 := Lib.hid S4
        clear S4 hck hch hcn
        go_wp2
        go_roundw
        case rel => exact ⟨k + 1, _, by omega, by go_num, HS4.out⟩
        case measure => simp [intOf]; omega
      by_cases h1 : K = 1
      · subst h1
        go_wp2_with fail
        refine (head_calls H bh0 bh1 _).mono ?_
        rintro e w3 ⟨rfl, rfl⟩
        go_wp2_with fail
        refine (node_calls n bn0 bn1 _).mono ?_
        rintro e w3 ⟨rfl, rfl⟩
        go_wp2_with fail
        refine (Push_cs HS.out (isH_hA H) (isN_nA n) _).mono ?_
        rintro e w4 ⟨rfl, S4, _⟩
        have HS4 := Lib.hid S4
        clear S4 hck hch hcn h0
        go_wp2
        go_roundw
        case rel => exact ⟨k + 1, _, by omega, by go_num, HS4.out⟩
        case measure => simp [intOf]; omega
      by_cases h2 : K = 2
      · subst h2
        go_wp2_with fail
        refine (head_calls H bh0 bh1 _).mono ?_
        rintro e w3 ⟨rfl, rfl⟩
        go_wp2_with fail
        refine (node_calls n bn0 bn1 _).mono ?_
        rintro e w3 ⟨rfl, rfl⟩
        go_wp2_with fail
        refine (Pop_cs HS.out (isH_hA H) _).mono ?_
        rintro e w4 ⟨rfl, S4, _⟩
        have HS4 := Lib.hid S4
        clear S4 hck hch hcn h0 h1
        go_wp2
        go_roundw
        case rel => exact ⟨k + 1, _, by omega, by go_num, HS4.out⟩
        case measure => simp [intOf]; omega
      by_cases h3 : K = 3
      · subst h3
        go_wp2_with fail
        refine (head_calls H bh0 bh1 _).mono ?_
        rintro e w3 ⟨rfl, rfl⟩
        go_wp2_with fail
        refine (node_calls n bn0 bn1 _).mono ?_
        rintro e w3 ⟨rfl, rfl⟩
        go_wp2_with fail
        refine (Pop_cs HS.out (isH_hA H) _).mono ?_
        rintro e w4 ⟨rfl, S4, _⟩
        have HS4 := Lib.hid S4
        clear S4 hck hch hcn h0 h1 h2
        go_wp2
        go_roundw
        case rel => exact ⟨k + 1, _, by omega, by go_num, HS4.out⟩
        case measure => simp [intOf]; omega
      · have e0 : (K == 0) = false := beq_eq_false_iff_ne.2 h0
        have e1 : (K == 1) = false := beq_eq_false_iff_ne.2 h1
        have e2 : (K == 2) = false := beq_eq_false_iff_ne.2 h2
        have e3 : (K == 3) = false := beq_eq_false_iff_ne.2 h3
        clear h0 h1 h2 h3
        go_wp2_with fail
        refine (head_calls H bh0 bh1 _).mono ?_
        rintro e w3 ⟨rfl, rfl⟩
        go_wp2_with fail
        refine (node_calls n bn0 bn1 _).mono ?_
        rintro e w3 ⟨rfl, rfl⟩
        go_wp2_with fail
        refine (Remove_cs HS.out (isH_hA H) (isN_nA n)).mono ?_
        rintro e w4 ⟨rfl, S4, _⟩
        have HS4 := Lib.hid S4
        clear S4 hck hch hcn e0 e1 e2 e3
        go_wp2
        go_roundw
        case rel => exact ⟨k + 1, _, by omega, by go_num, HS4.out⟩
        case measure => simp [intOf]; omega
    · have hno : ((len : Int) ≤ (k : Int)) ∨ ((k : Int) < (len : Int)) ∧ k = 80 := by omega
      clear hlt HD
      rcases hno with hno | ⟨hno, rfl⟩
      all_goals
        go_wp2_with fail
        go_loopw [8, 9, 10, 11, 12, 13, 14, 15, 16] (fun m v _ _ _ _ _ _ _ wr => ∃ j : Nat, j ≤ 3 ∧ v = .int .i64 (j : Int) ∧ m = .int .i64 (totL ls j) ∧ Cs w wr p d ls) (fun _ v _ _ _ _ _ _ _ _ => 3 - (intOf v).toNat)
        case atStart => exact ⟨0, by omega, rfl, rfl, HS.out⟩
        case round =>
          clear HS
          obtain ⟨j, hj, rfl, rfl, hS⟩ := hrel
          have HS := Lib.hid hS
          clear hS
          by_cases hlt : j < 3
          · have hH := isH_hA (j : Int)
            have hll := HS.out.len hH
            have htn := totL_nn ls j
            have htk : totL ls j ≤ 42 := by have := totL_le HS.out j; omega
            have htl : totL ls (j + 1) = totL ls j + (ls (hA (j : Int))).length := rfl
            have HTL := Lib.hid htl
            clear htl
            go_wp2_with fail
            refine (head_calls (j : Int) (by omega) (by omega) _).mono ?_
            rintro e w3 ⟨rfl, rfl⟩
            go_wp2_with fail
            refine (All_cs HS.out hH).mono ?_
            rintro e w4 ⟨v, rfl, hrow, S4, hg4⟩
            obtain ⟨A4, c4, rfl, hR4⟩ := Ri.of_row hrow rfl
            have hd4 := HS.out.new.2.1
            have HS4 := Lib.hid S4
            have HR4 := Lib.hid hR4
            clear S4 hR4 hrow hg4 HS
            go_wp2_with fail
            refine (head_calls (j : Int) (by omega) (by omega) _).mono ?_
            rintro e w5 ⟨rfl, rfl⟩
            go_wp2_with fail
            refine (End_cs HS4.out hH false).mono ?_
            rintro e w5 ⟨rfl, S5, hg5⟩
            have HS5 := Lib.hid S5
            have HR5 := Lib.hid (HR4.out.grown hg5 hd4)
            clear S5 hg5 HR4 HS4
            go_wp2_with fail
            generalize hLL : ls (hA (j : Int)) = L at *
            have HLL := Lib.hid hLL
            clear hLL
            obtain ⟨g4, rfl⟩ : ∃ g : Option Addr, A4 = g := ⟨_, rfl⟩
            go_loopw [12, 14, 15, 16] (fun nd kv _ _ wx => ∃ (m : Nat) (y : Int), m ≤ L.length ∧ y = (m : Int) - 1 ∧ kv = .int .i64 y ∧ nd = .int .i64 ((L.take m).getLastD 0) ∧ Cs w wx p d ls ∧ Ri wx wr.heap.size A4 L) (fun _ kv _ _ _ => ((intOf kv) + 1).toNat)
            case atStart => exact ⟨L.length, _, by omega, rfl, rfl, by rw [List.take_length]; rfl, HS5.out, HR5.out⟩
            case round =>
              clear HS5 HR5
              obtain ⟨m, y, hm, hy, rfl, rfl, hS, hR⟩ := hrel
              have HSx := Lib.hid hS
              have HRx := Lib.hid hR
              clear hS hR
              cases m with
              | zero =>
                obtain rfl : y = -1 := by omega
                clear hy
                have h0 : (L.take 0).getLastD 0 = 0 := rfl
                rw [h0]
                clear h0
                go_wp2
                go_roundw
                case rel => exact ⟨j + 1, by omega, by go_num, by rw [HTL.out], HSx.out⟩
                case measure => simp [intOf]; omega
              | succ q =>
                obtain rfl : y = (q : Int) := by omega
                clear hy
                have hq : q < L.length := by omega
                obtain ⟨g, rfl, _, hcell⟩ := HRx.out.at_ q hq
                have hsplit := parts L q hq
                rw [last_take L q hq]
                have hown := HSx.out.node hH (x := L.getD q 0) (by rw [HLL.out, List.getD_eq_getElem?_getD, List.getElem?_eq_getElem hq]; exact List.getElem_mem hq)
                generalize L.getD q 0 = x at *
                obtain ⟨hxn, hxo⟩ := hown
                have HSP := Lib.hid hsplit
                have HXO := Lib.hid hxo
                clear hsplit hxo
                go_wp2_with fail
                refine (Owner_cs HSx.out hxn).mono ?_
                rintro e w6 ⟨rfl, S6, hg6⟩
                rw [HXO.out]
                have HS6 := Lib.hid S6
                have HR6 := Lib.hid (HRx.out.grown hg6 hd4)
                have hcell6 := hg6.cell hcell (fun e => by injection e with e; simp at e; omega)
                clear S6 hg6 HSx HRx hcell
                go_wp2_with fail
                refine (head_calls (j : Int) (by omega) (by omega) _).mono ?_
                rintro e w7 ⟨rfl, rfl⟩
                go_wp2_with fail
                refine (Next_back HS6.out hH (by rw [HLL.out]; exact HSP.out)).mono ?_
                rintro e w8 ⟨rfl, S8, hg8⟩
                have HS8 := Lib.hid S8
                have HR8 := Lib.hid (HR6.out.grown hg8 hd4)
                clear S8 hg8 HS6 HR6 hcell6
                go_wp2
                go_roundw
                case rel => exact ⟨q, (q : Int) - 1, by omega, rfl, by go_num, by rw [List.getLastD_eq_getLast?], HS8.out, HR8.out⟩
                case measure => simp [intOf]
          · have h3 : (3 : Int) ≤ (j : Int) := by omega
            have hta : totL ls j = ((ownL ls 14).length : Int) := by rw [show j = 3 from by omega, totL_3 ls, ownL_all HS.out]; omega
            clear hlt hj
            have hle : (ownL ls 14).length ≤ 42 := by have := totL_le HS.out 3; have e3 := totL_3 ls; have ea := ownL_all HS.out; omega
            rw [hta]
            have HTA := Lib.hid hta
            clear hta
            go_wp2_with fail
            go_loopw [8, 17, 18, 19, 20, 21, 22, 23, 24] (fun m v _ _ _ _ _ _ _ wx => ∃ j : Nat, j ≤ 14 ∧ v = .int .i64 (j : Int) ∧ m = .int .i64 (((ownL ls 14).length : Int) - (ownL ls j).length) ∧ Cs w wx p d ls) (fun _ v _ _ _ _ _ _ _ _ => 14 - (intOf v).toNat)
            case atStart => exact ⟨0, by omega, rfl, by go_num, HS.out⟩
            case round =>
              clear HS
              obtain ⟨j, hj, rfl, rfl, hS⟩ := hrel
              have HS := Lib.hid hS
              clear hS
              by_cases hlt : j < 14
              · have hN := isN_nA (j : Int)
                have hnx := ownL_next ls j
                have hlj : (ownL ls j).length ≤ 14 := Nat.le_trans (List.length_filter_le _ _) (by simp; omega)
                by_cases ho : ownr ls (nA (j : Int)) = 0
                · rw [if_pos ho] at hnx
                  have HO := Lib.hid ho
                  have HNX := Lib.hid hnx
                  clear ho hnx
                  go_wp2_with fail
                  refine (node_calls (j : Int) (by omega) (by omega) _).mono ?_
                  rintro e w3 ⟨rfl, rfl⟩
                  go_wp2_with fail
                  refine (Owner_cs HS.out hN).mono ?_
                  rintro e w4 ⟨rfl, S4, _⟩
                  rw [HO.out]
                  have HS4 := Lib.hid S4
                  clear S4 HS
                  go_wp2_with fail
                  refine (Next_free HS4.out hN HO.out true).mono ?_
                  rintro e w5 ⟨rfl, S5, _⟩
                  have HS5 := Lib.hid S5
                  clear S5 HS4
                  go_wp2_with fail
                  refine (Next_free HS5.out hN HO.out false).mono ?_
                  rintro e w6 ⟨rfl, S6, _⟩
                  have HS6 := Lib.hid S6
                  clear S6 HS5
                  go_wp2
                  go_roundw
                  case rel => exact ⟨j + 1, by omega, by go_num, by rw [HNX.out, Int.add_zero], HS6.out⟩
                  case measure => simp [intOf]; omega
                · rw [if_neg ho] at hnx
                  have ho0 : (ownr ls (nA (j : Int)) == 0) = false := beq_eq_false_iff_ne.2 ho
                  have ho1 : (ownr ls (nA (j : Int)) != 0) = true := by rw [bne_iff_ne]; exact ho
                  have HNX := Lib.hid hnx
                  clear ho hnx
                  go_wp2_with fail
                  refine (node_calls (j : Int) (by omega) (by omega) _).mono ?_
                  rintro e w3 ⟨rfl, rfl⟩
                  go_wp2_with fail
                  refine (Owner_cs HS.out hN).mono ?_
                  rintro e w4 ⟨rfl, S4, _⟩
                  have HS4 := Lib.hid S4
                  clear S4 HS
                  go_wp2_with fail
                  refine (Next_some HS4.out hN true).mono ?_
                  rintro e w5 ⟨⟨v5, rfl⟩, S5⟩
                  have HS5 := Lib.hid S5
                  clear S5 HS4
                  go_wp2_with fail
                  refine (Next_some HS5.out hN false).mono ?_
                  rintro e w6 ⟨⟨v6, rfl⟩, S6⟩
                  have HS6 := Lib.hid S6
                  clear S6 HS5
                  go_wp2
                  go_roundw
                  case rel => exact ⟨j + 1, by omega, by go_num, by rw [HNX.out]; go_num, HS6.out⟩
                  case measure => simp [intOf]; omega
              · have h14 : (14 : Int) ≤ (j : Int) := by omega
                have hz : ((ownL ls 14).length : Int) - (ownL ls j).length = 0 := by rw [show j = 14 from by omega, Int.sub_self]
                rw [hz]
                clear hlt hj hz
                go_wp2
                go_ret
                exact ⟨rfl, HS.out.kept⟩
end Go.Proofs.Ytajbfjmbohkphaa
