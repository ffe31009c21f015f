/- The chain (layer 10): the functions' steps, in lists. -/
import Derived.Test.YtajbfjmbohkphaaChS
set_option linter.unusedVariables false
set_option linter.unusedSimpArgs false
namespace Go.Proofs.Ytajbfjmbohkphaa
open Go.RowKit

theorem gb_zeros (n i : Nat) : gb (zeros n) i = 0 := by
  unfold gb zeros
  rw [List.getD_eq_getElem?_getD]
  by_cases h : i < n
  · rw [List.getElem?_replicate_of_lt h]; rfl
  · rw [List.getElem?_eq_none (by rw [List.length_replicate]; omega)]; rfl
theorem ldv_zeros (n a : Nat) : ∀ k, ldv (zeros n) a k = 0
  | 0 => rfl
  | k + 1 => by show ldv (zeros n) a k + gb (zeros n) (a + k) * 256 ^ k = 0; rw [ldv_zeros n a k, gb_zeros]; simp
theorem ag_zeros : Ag (zeros 512) (fun _ => 0) := by
  refine ⟨zeros_length _, fun a ha => ?_⟩
  unfold gt ldA
  rw [if_pos (nErr4 (zeros_length _) ha), ldv_zeros]
theorem rep_none : Rep 0 4 (fun _ => 0) (fun _ => []) :=
  ⟨fun _ _ => rfl, fun _ _ => rfl, fun _ _ => trivial, fun _ _ => List.nodup_nil, fun _ _ _ => ⟨rfl, rfl, rfl⟩, fun _ _ _ _ => rfl⟩

theorem nodup_le : ∀ (N : Nat) (L : List Nat), L.Nodup → (∀ x ∈ L, x < N) → L.length ≤ N
  | 0, L, _, h => by
    cases L with
    | nil => simp
    | cons x t => exact absurd (h x (List.mem_cons_self ..)) (by omega)
  | N + 1, L, hn, h => by
    have h2 := nodup_le N (L.erase N) (hn.erase N) (fun x hx => by
      have h3 := h x (List.mem_of_mem_erase hx)
      have h4 : x ≠ N := fun e => by subst e; exact (List.Nodup.not_mem_erase hn) hx
      omega)
    have h5 := List.length_erase (a := N) (l := L)
    split at h5 <;> omega
theorem nodup_map_nat {L : List Int} (hn : L.Nodup) (f : Int → Nat) (hf : ∀ x ∈ L, ∀ y ∈ L, f x = f y → x = y) : (L.map f).Nodup := by
  induction L with
  | nil => simp
  | cons x t ih =>
    rw [List.map_cons]
    obtain ⟨h1, h2⟩ := List.nodup_cons.1 hn
    refine List.nodup_cons.2 ⟨fun hm => ?_, ih h2 (fun a ha b hb => hf a (List.mem_cons_of_mem _ ha) b (List.mem_cons_of_mem _ hb))⟩
    obtain ⟨y, hy, e⟩ := List.mem_map.1 hm
    exact h1 (hf y (List.mem_cons_of_mem _ hy) x (List.mem_cons_self ..) e ▸ hy)
theorem nodes_le {L : List Int} (hn : L.Nodup) (h : ∀ x ∈ L, isN x) : L.length ≤ 14 := by
  have := nodup_le 14 (L.map (fun x => (x / 16 - 2).toNat)) (nodup_map_nat hn _ (fun x hx y hy e => by
    have h1 := h x hx
    have h2 := h y hy
    unfold isN at h1 h2
    omega)) (fun x hx => by
    obtain ⟨y, hy, rfl⟩ := List.mem_map.1 hx
    have := h y hy
    unfold isN at this
    omega)
  rwa [List.length_map] at this

theorem ch_of_seg {bs : List Int} {G : Int → Int} (A : Ag bs G) {own : Int} : ∀ {L : List Int} {p : Int}, Seg G 0 4 own p L 0 → ch bs (L.headD 0) L
  | [], _, _ => rfl
  | x :: t, _, ⟨h1, h2, h3, h4, h5⟩ => by
    refine ⟨rfl, by unfold isN at h1; omega, inn_n A.1 h1, ?_⟩
    rw [A.2 x (al_n h1).1]
    rw [Int.add_zero] at h2
    rw [h2]
    exact ch_of_seg A h5

section
variable {w0 w : World} {p d : Nat} {ls : Int → List Int}

theorem fresh_cs (K : Kept w0 w) : Calls Try.prog 10 #[] w fun e w' => ∃ p d : Nat, e = .returned (.pointer (some ⟨p, 0, none⟩)) ∧ Cs w0 w' p d (fun _ => []) := by
  have HK := Lib.hid K
  clear K
  go_enter Try.func10, Try.ntmps10
  go_wp2_with fail
  refine (New_st HK.out 512 (by omega) (by omega)).mono ?_
  rintro e w1 ⟨p, d, rfl, S⟩
  go_wp2
  go_ret
  exact ⟨p, d, rfl, ⟨_, _, S, ag_zeros, rep_none⟩⟩

theorem Push_cs (S : Cs w0 w p d ls) {h n : Int} (hh : isH h) (hn : isN n) (front : Bool) :
    Calls Try.prog 11 #[.pointer (some ⟨p, 0, none⟩), .int .i64 h, .int .i64 n, .bool front] w fun e w' =>
      e = .returned (.int .i64 (if ownr ls n = 0 then 0 else 8)) ∧ Cs w0 w' p d (pushLs ls h n front) ∧ w.grownBy w' (some d) := by
  obtain ⟨bs, G, O, A, R⟩ := S.ex
  refine (Push_any h n front w O.ar).mono ?_
  rintro e w' ⟨rfl, L⟩
  have hE : pushE bs h n = if ownr ls n = 0 then 0 else 8 := by unfold pushE; rw [if_pos (chk_ok A.1 hh hn), A.2 _ (al_n hn).2.2.1, R.ownG hn]
  refine ⟨by rw [hE], ?_, L.gr⟩
  by_cases hf : ownr ls n = 0
  · obtain ⟨G', A', R'⟩ := push_ag A R hh hn front hf
    exact ⟨_, G', O.grown L.ar L.gr, A', R'⟩
  · have hL := L.ar
    unfold pushB at hL
    rw [hE, if_neg hf, if_neg (by omega)] at hL
    refine ⟨_, G, O.grown hL L.gr, A, ?_⟩
    unfold pushLs
    rw [if_neg hf]
    exact R

theorem Remove_cs (S : Cs w0 w p d ls) {h n : Int} (hh : isH h) (hn : isN n) :
    Calls Try.prog 13 #[.pointer (some ⟨p, 0, none⟩), .int .i64 h, .int .i64 n] w fun e w' =>
      e = .returned (.int .i64 (if n ∈ ls h then 0 else 8)) ∧ Cs w0 w' p d (remLs ls h n) ∧ w.grownBy w' (some d) := by
  obtain ⟨bs, G, O, A, R⟩ := S.ex
  refine (Remove_any h n w O.ar).mono ?_
  rintro e w' ⟨rfl, L⟩
  by_cases hm : n ∈ ls h
  · obtain ⟨hE, G', A', R'⟩ := remove_ag A R hh hm
    exact ⟨by rw [hE, if_pos hm], ⟨_, G', O.grown L.ar L.gr, A', R'⟩, L.gr⟩
  · have hE : removeE bs h n = 8 := by
      unfold removeE
      rw [if_pos (chk_ok A.1 hh hn), A.2 _ (al_n hn).2.2.1, if_neg (fun e => hm ((R.own_iff hh).1 ((R.ownG hn).symm.trans e)))]
    have hL := L.ar
    unfold removeB at hL
    rw [hE, if_neg (by omega)] at hL
    refine ⟨by rw [hE, if_neg hm], ⟨_, G, O.grown hL L.gr, A, R.congr (fun x => ?_)⟩, L.gr⟩
    unfold remLs
    rw [List.erase_of_not_mem hm]
    by_cases e : x = h
    · rw [updL_eq e, e]
    · rw [updL_ne e]

theorem end_ag {bs : List Int} {G : Int → Int} (A : Ag bs G) (R : Rep 0 4 G ls) {h : Int} (hh : isH h) (front : Bool) : gt bs (h + if front then 0 else 4) = endN (ls h) front := by
  cases front
  · show gt bs (h + 4) = (ls h).getLastD 0
    rw [A.2 _ (al_h hh).2, R.tl h hh]
  · show gt bs (h + 0) = (ls h).headD 0
    rw [Int.add_zero, A.2 _ (al_h hh).1, R.first hh]

theorem End_cs (S : Cs w0 w p d ls) {h : Int} (hh : isH h) (front : Bool) :
    Calls Try.prog 23 #[.pointer (some ⟨p, 0, none⟩), .int .i64 h, .bool front] w fun e w' =>
      e = .returned (.tuple #[.int .i64 (endN (ls h) front), .int .i64 0]) ∧ Cs w0 w' p d ls ∧ w.grownBy w' (some d) := by
  obtain ⟨bs, G, O, A, R⟩ := S.ex
  refine (End_any h front w O.ar).mono ?_
  rintro e w' ⟨rfl, L⟩
  rw [inn_h A.1 hh, if_pos rfl, if_pos rfl, end_ag A R hh front]
  exact ⟨rfl, ⟨_, G, O.grown L.ar L.gr, A, R⟩, L.gr⟩

theorem endN_mem {L : List Int} (h : L ≠ []) (front : Bool) : endN L front ∈ L := by
  cases front
  · exact lastD_mem h
  · exact headD_mem h

theorem Pop_cs (S : Cs w0 w p d ls) {h : Int} (hh : isH h) (front : Bool) :
    Calls Try.prog 15 #[.pointer (some ⟨p, 0, none⟩), .int .i64 h, .bool front] w fun e w' =>
      e = .returned (.tuple #[.int .i64 (endN (ls h) front), .int .i64 (if ls h = [] then 6 else 0)]) ∧ Cs w0 w' p d (remLs ls h (endN (ls h) front)) ∧ w.grownBy w' (some d) := by
  obtain ⟨bs, G, O, A, R⟩ := S.ex
  refine (Pop_any h front w O.ar).mono ?_
  rintro e w' ⟨rfl, hA, hg⟩
  have he : endL bs h front = endN (ls h) front := end_ag A R hh front
  unfold popN popE
  unfold popB at hA
  rw [inn_h A.1 hh, he] at hA ⊢
  simp only [if_true] at hA ⊢
  by_cases hz : ls h = []
  · have h0 : endN (ls h) front = 0 := by rw [hz]; cases front <;> rfl
    rw [if_pos h0] at hA ⊢
    refine ⟨by rw [if_pos hz], ⟨_, G, O.grown hA hg, A, R.congr (fun x => ?_)⟩, hg⟩
    unfold remLs
    rw [hz]
    by_cases e : x = h
    · rw [updL_eq e, e, hz]; rfl
    · rw [updL_ne e]
  · have hm := endN_mem hz front
    have hn := (R.own hh hm).1
    have h0 : endN (ls h) front ≠ 0 := by unfold isN at hn; omega
    rw [if_neg h0] at hA ⊢
    obtain ⟨hE, G', A', R'⟩ := remove_ag A R hh hm
    exact ⟨by rw [hE, if_neg hz], ⟨_, G', O.grown hA hg, A', R'⟩, hg⟩

theorem Owner_cs (S : Cs w0 w p d ls) {n : Int} (hn : isN n) :
    Calls Try.prog 24 #[.pointer (some ⟨p, 0, none⟩), .int .i64 n] w fun e w' =>
      e = .returned (.tuple #[.int .i64 (ownr ls n), .int .i64 0]) ∧ Cs w0 w' p d ls ∧ w.grownBy w' (some d) := by
  obtain ⟨bs, G, O, A, R⟩ := S.ex
  refine (Owner_any n w O.ar).mono ?_
  rintro e w' ⟨rfl, L⟩
  rw [inn_n A.1 hn, if_pos rfl, if_pos rfl, A.2 _ (al_n hn).2.2.1, R.ownG hn]
  exact ⟨rfl, ⟨_, G, O.grown L.ar L.gr, A, R⟩, L.gr⟩

/-- What stands behind a node, or ahead of it. -/
theorem Next_in (S : Cs w0 w p d ls) {h n : Int} (hh : isH h) {X Y : List Int} (hL : ls h = X ++ n :: Y) (front : Bool) :
    Calls Try.prog 25 #[.pointer (some ⟨p, 0, none⟩), .int .i64 n, .bool front] w fun e w' =>
      e = .returned (.tuple #[.int .i64 (if front then Y.headD 0 else X.getLastD 0), .int .i64 0]) ∧ Cs w0 w' p d ls ∧ w.grownBy w' (some d) := by
  obtain ⟨bs, G, O, A, R⟩ := S.ex
  have hs := R.sg h hh
  rw [hL] at hs
  obtain ⟨sA, hn, e1, e2, e3, sB⟩ := Seg.app.1 hs
  refine (Next_any n front w O.ar).mono ?_
  rintro e w' ⟨rfl, L⟩
  have hv : gt bs (n + if front then 0 else 4) = if front then Y.headD 0 else X.getLastD 0 := by
    cases front
    · show gt bs (n + 4) = X.getLastD 0
      rw [A.2 _ (al_n hn).2.1, e2]
    · show gt bs (n + 0) = Y.headD 0
      rw [Int.add_zero, A.2 _ (al_n hn).1, ← e1, Int.add_zero]
  rw [inn_n A.1 hn, if_pos rfl, if_pos rfl, hv]
  exact ⟨rfl, ⟨_, G, O.grown L.ar L.gr, A, R⟩, L.gr⟩
theorem Next_free (S : Cs w0 w p d ls) {n : Int} (hn : isN n) (hf : ownr ls n = 0) (front : Bool) :
    Calls Try.prog 25 #[.pointer (some ⟨p, 0, none⟩), .int .i64 n, .bool front] w fun e w' =>
      e = .returned (.tuple #[.int .i64 0, .int .i64 0]) ∧ Cs w0 w' p d ls ∧ w.grownBy w' (some d) := by
  obtain ⟨bs, G, O, A, R⟩ := S.ex
  refine (Next_any n front w O.ar).mono ?_
  rintro e w' ⟨rfl, L⟩
  obtain ⟨f1, f2, f3⟩ := R.fr n hn (ownr_zero.1 hf)
  have hv : gt bs (n + if front then 0 else 4) = 0 := by
    cases front
    · show gt bs (n + 4) = 0
      rw [A.2 _ (al_n hn).2.1, f2]
    · show gt bs (n + 0) = 0
      rw [Int.add_zero, A.2 _ (al_n hn).1, ← f1, Int.add_zero]
  rw [inn_n A.1 hn, if_pos rfl, if_pos rfl, hv]
  exact ⟨rfl, ⟨_, G, O.grown L.ar L.gr, A, R⟩, L.gr⟩

theorem Cs.node (S : Cs w0 w p d ls) {h : Int} (hh : isH h) {x : Int} (hx : x ∈ ls h) : isN x ∧ ownr ls x = h := by
  obtain ⟨bs, G, O, A, R⟩ := S.ex
  exact ⟨(R.own hh hx).1, (R.own_iff hh).2 hx⟩
theorem Cs.nodup (S : Cs w0 w p d ls) {h : Int} (hh : isH h) : (ls h).Nodup := by
  obtain ⟨bs, G, O, A, R⟩ := S.ex
  exact R.nd h hh
theorem Cs.len (S : Cs w0 w p d ls) {h : Int} (hh : isH h) : (ls h).length ≤ 14 := nodes_le (S.nodup hh) (fun x hx => (S.node hh hx).1)

theorem All_cs (S : Cs w0 w p d ls) {h : Int} (hh : isH h) :
    Calls Try.prog 14 #[.pointer (some ⟨p, 0, none⟩), .int .i64 h] w fun e w' =>
      ∃ v, e = .returned (.tuple #[v, .int .i64 0]) ∧ w'.ownsRow w.heap.size 3 1 v (ls h).length (nums (ls h)) ∧ Cs w0 w' p d ls ∧ w.grownBy w' (some d) := by
  have hlen := S.len hh
  obtain ⟨bs, G, O, A, R⟩ := S.ex
  have hc := ch_of_seg A (R.sg h hh)
  rw [← R.first hh, ← A.2 h (al_h hh).1] at hc
  refine (All_any h (ls h) w O.ar (inn_h A.1 hh) hc (by omega)).mono ?_
  rintro e w' ⟨v, rfl, hr, hA, hg⟩
  exact ⟨v, rfl, hr, ⟨_, G, O.grown hA hg, A, R⟩, hg⟩
end
end Go.Proofs.Ytajbfjmbohkphaa
