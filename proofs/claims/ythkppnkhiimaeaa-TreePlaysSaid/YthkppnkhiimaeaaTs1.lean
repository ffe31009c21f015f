/- Lemmas of the claim TreePlays. -/
import Derived.Test.YthkppnkhiimaeaaTp8
/- The tree (layer 11): each function's step, in links; in trees. -/
set_option linter.unusedVariables false
set_option linter.unusedSimpArgs false
namespace Go.Proofs.Ythkppnkhiimaeaa
open Go.RowKit
structure Hs (w0 w : World) (p d : Nat) (kw : Int → Int) (h : Hp) : Prop where
  ex : ∃ bs, One w0 w p d bs ∧ Wd bs h kw
theorem One.grown {w0 w w1 : World} {p d : Nat} {bs bs' : List Int} (S : One w0 w p d bs) (hA : Ar w1 p d bs') (hg : w.grownBy w1 (some d)) : One w0 w1 p d bs' := ⟨⟨grown_below S.kept.below hg S.new S.kept.below.size⟩, hA, S.new⟩
section
variable {w0 w w1 : World} {p d : Nat} {kw : Int → Int} {h : Hp}
theorem Hs.kept (S : Hs w0 w p d kw h) : Kept w0 w := by obtain ⟨bs, h1, _⟩ := S.ex; exact h1.kept
theorem Hs.then_ (S : Hs w0 w p d kw h) (k : Below w.heap.size w w1) : Hs w0 w1 p d kw h := by obtain ⟨bs, h1, h2⟩ := S.ex; exact ⟨bs, h1.then_ k, h2⟩
theorem Hs.new (S : Hs w0 w p d kw h) : w0.heap.size ≤ d ∧ d < w.heap.size ∧ p < w.heap.size := by obtain ⟨bs, h1, _⟩ := S.ex; exact ⟨h1.new, h1.ar.lt.2, h1.ar.lt.1⟩
theorem Hs.other (S : Hs w0 w p d kw h) {r : Option Nat} (hg : w.grownBy w1 r) (hne : ∀ k, r = some k → k ≠ p ∧ k ≠ d ∧ w0.heap.size ≤ k) : Hs w0 w1 p d kw h := by
  obtain ⟨bs, h1, h2⟩ := S.ex
  exact ⟨bs, ⟨⟨h1.kept.below.grown hg h1.kept.below.size (fun k hk => (hne k hk).2.2)⟩, h1.ar.other hg (fun k hk => ⟨(hne k hk).1, (hne k hk).2.1⟩), h1.new⟩, h2⟩
theorem Add_hs {n : Int} {h' : Hp} (S : Hs w0 w p d kw h) (A : AddTr h (keyOf kw) n h') (h0 : h.O n = 0) :
    Calls Try.prog 12 #[.pointer (some ⟨p, 0, none⟩), .int .i64 8, .int .i64 n, .int .i64 (-8)] w fun e w' => e = .returned (.int .i64 0) ∧ Hs w0 w' p d kw h' ∧ w.grownBy w' (some d) := by
  obtain ⟨bs, h1, W⟩ := S.ex
  have hn : isN n := by cases A; assumption
  obtain ⟨F1, F2, q, s, bs', a1, a2, W'⟩ := add_wd A W
  refine (Add_ok n (-8) F1 F2 q s bs' w h1.ar (inn_n W hn).2.2 (by omega) (by omega) (W.key hn).2 ((W.fld hn).2.2.2.1.trans h0) a1 a2).mono ?_
  rintro e w' ⟨rfl, hA, hg⟩
  exact ⟨rfl, ⟨bs', h1.grown hA hg, W'⟩, hg⟩
theorem Add_hs_in {n : Int} (S : Hs w0 w p d kw h) (hn : isN n) (h0 : h.O n ≠ 0) :
    Calls Try.prog 12 #[.pointer (some ⟨p, 0, none⟩), .int .i64 8, .int .i64 n, .int .i64 (-8)] w fun e w' => e = .returned (.int .i64 8) ∧ Hs w0 w' p d kw h ∧ w.grownBy w' (some d) := by
  obtain ⟨bs, h1, W⟩ := S.ex
  refine (Add_ref n (-8) w h1.ar (inn_n W hn).2.2 (by omega) (by omega) (W.key hn).2 (by rw [(W.fld hn).2.2.2.1]; exact h0)).mono ?_
  rintro e w' ⟨rfl, hA, hg⟩
  exact ⟨rfl, ⟨bs, h1.grown hA hg, W⟩, hg⟩
theorem Remove_hs {z : Int} {h' : Hp} (S : Hs w0 w p d kw h) (R : RemTr h z h') :
    Calls Try.prog 16 #[.pointer (some ⟨p, 0, none⟩), .int .i64 8, .int .i64 z] w fun e w' => e = .returned (.int .i64 0) ∧ Hs w0 w' p d kw h' ∧ w.grownBy w' (some d) := by
  obtain ⟨bs, h1, W⟩ := S.ex
  obtain ⟨hz, hO, F, bs', r1, W'⟩ := rem_wd R W
  refine (Remove_ok z F bs' w h1.ar (inn_n W hz).2.2 ((W.fld hz).2.2.2.1.trans hO) r1).mono ?_
  rintro e w' ⟨rfl, hA, hg⟩
  exact ⟨rfl, ⟨bs', h1.grown hA hg, W'⟩, hg⟩
theorem Remove_hs_no {z : Int} (S : Hs w0 w p d kw h) (hz : isN z) (h0 : h.O z ≠ 8) :
    Calls Try.prog 16 #[.pointer (some ⟨p, 0, none⟩), .int .i64 8, .int .i64 z] w fun e w' => e = .returned (.int .i64 8) ∧ Hs w0 w' p d kw h ∧ w.grownBy w' (some d) := by
  obtain ⟨bs, h1, W⟩ := S.ex
  refine (Remove_ref z w h1.ar (inn_n W hz).2.2 (by rw [(W.fld hz).2.2.2.1]; exact h0)).mono ?_
  rintro e w' ⟨rfl, hA, hg⟩
  exact ⟨rfl, ⟨bs, h1.grown hA hg, W⟩, hg⟩
theorem Root_hs (S : Hs w0 w p d kw h) :
    Calls Try.prog 14 #[.pointer (some ⟨p, 0, none⟩), .int .i64 8] w fun e w' => e = .returned (.tuple #[.int .i64 h.top, .int .i64 0]) ∧ Hs w0 w' p d kw h ∧ w.grownBy w' (some d) := by
  obtain ⟨bs, h1, W⟩ := S.ex
  refine (Root_any 8 w h1.ar).mono ?_
  rintro e w' ⟨rfl, hA, hg⟩
  have hl : bs.length = 2048 := W.1
  have hi : inn bs 8 8 = true := by unfold inn; rw [hl]; rfl
  refine ⟨?_, ⟨bs, h1.grown hA hg, W⟩, hg⟩
  unfold rVal rErrT
  rw [hi, if_pos rfl, if_pos rfl, W.top]
theorem Child_hs {n : Int} (S : Hs w0 w p d kw h) (hn : isN n) (right : Bool) :
    Calls Try.prog 30 #[.pointer (some ⟨p, 0, none⟩), .int .i64 n, .bool right] w fun e w' => e = .returned (.tuple #[.int .i64 (h.ch right n), .int .i64 0]) ∧ Hs w0 w' p d kw h ∧ w.grownBy w' (some d) := by
  obtain ⟨bs, h1, W⟩ := S.ex
  refine (Child_any n right w h1.ar).mono ?_
  rintro e w' ⟨rfl, hA, hg⟩
  refine ⟨?_, ⟨bs, h1.grown hA hg, W⟩, hg⟩
  unfold nVal nErrT
  rw [(inn_n W hn).1, if_pos rfl, if_pos rfl]
  cases right
  · rw [if_neg (by decide), Int.add_zero, (W.fld hn).1]
  · rw [if_pos rfl, (W.fld hn).2.1]
theorem Owner_hs {n : Int} (S : Hs w0 w p d kw h) (hn : isN n) :
    Calls Try.prog 31 #[.pointer (some ⟨p, 0, none⟩), .int .i64 n] w fun e w' => e = .returned (.tuple #[.int .i64 (h.O n), .int .i64 0]) ∧ Hs w0 w' p d kw h ∧ w.grownBy w' (some d) := by
  obtain ⟨bs, h1, W⟩ := S.ex
  refine (Owner_any n w h1.ar).mono ?_
  rintro e w' ⟨rfl, hA, hg⟩
  refine ⟨?_, ⟨bs, h1.grown hA hg, W⟩, hg⟩
  unfold nVal nErrT
  rw [(inn_n W hn).1, if_pos rfl, if_pos rfl, (W.fld hn).2.2.2.1]
theorem Red_hs {n : Int} (S : Hs w0 w p d kw h) (hn : isN n) :
    Calls Try.prog 19 #[.pointer (some ⟨p, 0, none⟩), .int .i64 n] w fun e w' => e = .returned (.tuple #[.bool (redH h n), .int .i64 0]) ∧ Hs w0 w' p d kw h ∧ w.grownBy w' (some d) := by
  obtain ⟨bs, h1, W⟩ := S.ex
  refine (Red_any n w h1.ar).mono ?_
  rintro e w' ⟨rfl, hA, hg⟩
  refine ⟨?_, ⟨bs, h1.grown hA hg, W⟩, hg⟩
  unfold nVal nErrT redH
  rw [(inn_n W hn).1, if_pos rfl, if_pos rfl, (W.fld hn).2.2.2.2, show (n != 0) = true from by rw [bne_iff_ne]; exact hn.ne0]
  rfl
theorem LoadUp_hs {n : Int} (S : Hs w0 w p d kw h) (hn : isN n) :
    Calls Try.prog 20 #[.pointer (some ⟨p, 0, none⟩), .int .i64 (n + 8), .int .i64 4] w fun e w' => e = .returned (.tuple #[.int .u64 (h.P n), .int .i64 0]) ∧ Hs w0 w' p d kw h ∧ Below w.heap.size w w' := by
  obtain ⟨bs, h1, W⟩ := S.ex
  refine (Load_any (n + 8) 4 w h1.ar).mono ?_
  rintro e w' ⟨rfl, hB⟩
  refine ⟨?_, ⟨bs, h1.then_ hB, W⟩, hB⟩
  rw [nErr4 W.1 (al_n hn).2.2.1]
  rw [show ldA bs (n + 8) 4 = gt bs (n + 8) from rfl, (W.fld hn).2.2.1]
theorem First_hs {y : Int} {k : Nat} (S : Hs w0 w p d kw h) (hk : k ≤ 60) (hL : (h.top = 0 ∧ y = 0) ∨ LowTr h k h.top y) :
    Calls Try.prog 21 #[.pointer (some ⟨p, 0, none⟩), .int .i64 8] w fun e w' => e = .returned (.tuple #[.int .i64 y, .int .i64 0]) ∧ Hs w0 w' p d kw h ∧ w.grownBy w' (some d) := by
  obtain ⟨bs, h1, W⟩ := S.ex
  refine (First_any 8 w h1.ar).mono ?_
  rintro e w' ⟨rfl, hA, hg⟩
  have hl : bs.length = 2048 := W.1
  have hi : inn bs 8 8 = true := by unfold inn; rw [hl]; rfl
  refine ⟨?_, ⟨bs, h1.grown hA hg, W⟩, hg⟩
  unfold rVal rErrT
  rw [hi, if_pos rfl, if_pos rfl, W.top]
  rcases hL with ⟨h0, rfl⟩ | hL
  · rw [h0]; rfl
  · rw [low_wd hL W 60 hk]
end
/-! ### In trees -/
theorem nodup_len : ∀ (A B : List Int), A.Nodup → (∀ a ∈ A, a ∈ B) → A.length ≤ B.length
  | [], _, _, _ => by simp
  | a :: A, B, hn, h => by
    rw [List.nodup_cons] at hn
    have ha := h a (List.mem_cons_self ..)
    have := nodup_len A (B.erase a) hn.2 (fun x hx => (List.mem_erase_of_ne (fun e => hn.1 (by rw [← e]; exact hx))).2 (h x (List.mem_cons_of_mem _ hx)))
    rw [List.length_erase_of_mem ha] at this
    have hpos : 0 < B.length := List.length_pos_of_mem ha
    simp; omega
def allN : List Int := (List.range 40).map (fun (i : Nat) => 32 * ((i : Int) + 1))
theorem mem_allN {x : Int} (h : isN x) : x ∈ allN := by
  unfold isN at h
  refine List.mem_map.2 ⟨(x / 32 - 1).toNat, List.mem_range.2 (by omega), by omega⟩
theorem Foc.len {h : Hp} {t : Bt} (F : Foc h [] t) : t.ids.length ≤ 40 := by
  have := nodup_len t.ids allN F.ndT (fun a ha => mem_allN (F.T.isN a ha))
  simpa [allN] using this
theorem ino_of {bs : List Int} {kw : Int → Int} {h : Hp} (W : Wd bs h kw) : ∀ (t : Bt) (p : Int) (k : Nat), Rep h p t → t.ids.length ≤ k → InO bs k t.rt t.ids
  | .nil, p, 0, _, _ => ⟨rfl, rfl⟩
  | .nil, p, k + 1, _, _ => .inl ⟨rfl, rfl⟩
  | .node c l n r, p, 0, _, hk => by simp [Bt.ids] at hk
  | .node c l n r, p, k + 1, ⟨h1, h2, h3, h4, h5, h6, h7, h8⟩, hk => by
    have e0 := W.chB h1 false
    have e1 := W.chB h1 true
    rw [show sI false = 0 from rfl, h5] at e0
    rw [show sI true = 1 from rfl, h6] at e1
    simp [Bt.ids] at hk
    refine .inr ⟨h1.ne0, l.ids, r.ids, rfl, ?_, ?_⟩
    · rw [show (Bt.node c l n r).rt = n from rfl, e0]; exact ino_of W l n k h7 (by omega)
    · rw [show (Bt.node c l n r).rt = n from rfl, e1]; exact ino_of W r n k h8 (by omega)
theorem low_of {h : Hp} {t : Bt} (F : Foc h [] t) : ∃ k, k ≤ 60 ∧ ((h.top = 0 ∧ t.ids.headD 0 = 0) ∨ LowTr h k h.top (t.ids.headD 0)) := by
  have htop : h.top = t.rt := F.C
  by_cases ht : t = .nil
  · subst ht; exact ⟨0, by omega, .inl ⟨htop, rfl⟩⟩
  · obtain ⟨gs, c, y, x, k, a1, a2, a3, a4, a5⟩ := low_foc t [] F ht
    have hl := F.len
    refine ⟨k, by omega, .inr ?_⟩
    have : t.ids.headD 0 = y := by
      have hp := pre_app gs [] a3
      rw [List.append_nil] at hp
      rw [a2, plug_io, hp]
      rfl
    rw [this, htop]; exact a1
theorem srt_ins {key : Int → Int} {n : Int} : ∀ {L : List Int}, Srt key L → Srt key (ins key n L)
  | [], _ => by simp [ins, Srt]
  | a :: L, h => by
    unfold Srt at h ⊢
    rw [List.pairwise_cons] at h
    show ((if key n < key a then n :: a :: L else a :: ins key n L) : List Int).Pairwise _
    split
    · rename_i hlt
      rw [List.pairwise_cons, List.pairwise_cons]
      refine ⟨fun b hb => ?_, h⟩
      rcases List.mem_cons.1 hb with rfl | hb
      · omega
      · have := h.1 b hb; omega
    · rename_i hge
      rw [List.pairwise_cons]
      refine ⟨fun b hb => ?_, srt_ins h.2⟩
      have : b = n ∨ b ∈ L := mem_ins hb
      rcases this with rfl | hb
      · omega
      · exact h.1 b hb
where
  mem_ins {key : Int → Int} {n b : Int} : ∀ {L : List Int}, b ∈ ins key n L → b = n ∨ b ∈ L
    | [], h => by simp [ins] at h; exact .inl h
    | a :: L, h => by
      unfold ins at h
      split at h
      · rcases List.mem_cons.1 h with rfl | h
        · exact .inl rfl
        · exact .inr h
      · rcases List.mem_cons.1 h with rfl | h
        · exact .inr (List.mem_cons_self ..)
        · rcases mem_ins h with h | h
          · exact .inl h
          · exact .inr (List.mem_cons_of_mem _ h)
theorem mem_ins_iff {key : Int → Int} {n b : Int} : ∀ {L : List Int}, b ∈ ins key n L ↔ b = n ∨ b ∈ L
  | [] => by simp [ins]
  | a :: L => by
    unfold ins
    split
    · simp
    · rw [List.mem_cons, mem_ins_iff, List.mem_cons]
      constructor
      · rintro (h | h | h) <;> simp [h]
      · rintro (h | h | h) <;> simp [h]
theorem ins_len {key : Int → Int} {n : Int} : ∀ {L : List Int}, (ins key n L).length = L.length + 1
  | [] => rfl
  | a :: L => by
    unfold ins
    split
    · rfl
    · simp [ins_len (L := L)]
structure Ts (w0 w : World) (p d : Nat) (kw : Int → Int) (h : Hp) (t : Bt) : Prop where
  S : Hs w0 w p d kw h
  F : Foc h [] t
  rb : RB t
  srt : Srt (keyOf kw) t.ids
  fr : ∀ n, isN n → n ∉ t.ids → Free h n
section
variable {w0 w w1 : World} {p d : Nat} {kw : Int → Int} {h : Hp} {t : Bt}
theorem Rep.own {h : Hp} : ∀ {t : Bt} {p : Int}, Rep h p t → ∀ m ∈ t.ids, h.O m = 8
  | .nil, _, _, m, hm => by cases hm
  | .node c l n r, p, ⟨h1, h2, h3, h4, h5, h6, h7, h8⟩, m, hm => by
    simp [Bt.ids] at hm
    rcases hm with hm | rfl | hm
    · exact h7.own m hm
    · exact h4
    · exact h8.own m hm
theorem Ts.own (T : Ts w0 w p d kw h t) {n : Int} (hn : isN n) : h.O n = if n ∈ t.ids then 8 else 0 := by
  split
  · exact T.F.T.own n ‹_›
  · exact (T.fr n hn ‹_›).2.1
theorem Ts.with_ (T : Ts w0 w p d kw h t) {w1 : World} (S : Hs w0 w1 p d kw h) : Ts w0 w1 p d kw h t := ⟨S, T.F, T.rb, T.srt, T.fr⟩
theorem Add_ts {n : Int} (T : Ts w0 w p d kw h t) (hn : isN n) (hnt : n ∉ t.ids) :
    ∃ h' t', AddTr h (keyOf kw) n h' ∧ t'.ids = ins (keyOf kw) n t.ids ∧ Calls Try.prog 12 #[.pointer (some ⟨p, 0, none⟩), .int .i64 8, .int .i64 n, .int .i64 (-8)] w fun e w' => e = .returned (.int .i64 0) ∧ Ts w0 w' p d kw h' t' ∧ w.grownBy w' (some d) := by
  obtain ⟨h', t', a1, a2, a3, a4, a5⟩ := add_foc T.F T.rb T.srt hn hnt
  refine ⟨h', t', a1, a4, (Add_hs T.S a1 (T.fr n hn hnt).2.1).mono ?_⟩
  rintro e w' ⟨rfl, S', hg⟩
  refine ⟨rfl, ⟨S', a2, a3, by rw [a4]; exact srt_ins T.srt, fun m hm hmt => ?_⟩, hg⟩
  rw [a4, mem_ins_iff, not_or] at hmt
  exact (T.fr m hm hmt.2).eqn (a5 m hm.ne0 hmt.2 hmt.1)
theorem Remove_ts {z : Int} (T : Ts w0 w p d kw h t) (hz : z ∈ t.ids) :
    ∃ h' t', RemTr h z h' ∧ t'.ids = t.ids.erase z ∧ Calls Try.prog 16 #[.pointer (some ⟨p, 0, none⟩), .int .i64 8, .int .i64 z] w fun e w' => e = .returned (.int .i64 0) ∧ Ts w0 w' p d kw h' t' ∧ w.grownBy w' (some d) := by
  obtain ⟨h', t', a1, a2⟩ := rem_foc T.F T.rb hz (by have := T.F.len; omega)
  refine ⟨h', t', a1, a2.ids, (Remove_hs T.S a1).mono ?_⟩
  rintro e w' ⟨rfl, S', hg⟩
  refine ⟨rfl, ⟨S', a2.F, a2.rb, by rw [a2.ids]; exact T.srt.sublist List.erase_sublist, fun m hm hmt => ?_⟩, hg⟩
  rw [a2.ids] at hmt
  by_cases e : m = z
  · rw [e]; exact a2.free
  · have hm2 : m ∉ t.ids := fun hh => hmt ((List.mem_erase_of_ne e).2 hh)
    exact (T.fr m hm hm2).eqn (a2.out m hm.ne0 hm2)
theorem All_ts (T : Ts w0 w p d kw h t) :
    Calls Try.prog 17 #[.pointer (some ⟨p, 0, none⟩), .int .i64 8] w fun e w' => ∃ v, e = .returned (.tuple #[v, .int .i64 0]) ∧ w'.ownsRow w.heap.size 3 1 v t.ids.length (nums t.ids) ∧ Ts w0 w' p d kw h t ∧ w.grownBy w' (some d) := by
  obtain ⟨bs, h1, W⟩ := T.S.ex
  have hl : bs.length = 2048 := W.1
  have hi : inn bs 8 8 = true := by unfold inn; rw [hl]; rfl
  have hlen := T.F.len
  refine (All_any 8 40 t.ids w h1.ar hi ?_ (by omega) (by omega)).mono ?_
  · rw [W.top, show h.top = t.rt from T.F.C]
    exact ino_of W t 0 40 T.F.T hlen
  · rintro e w' ⟨v, rfl, hr, hA, hg⟩
    exact ⟨v, rfl, hr, T.with_ ⟨bs, h1.grown hA hg, W⟩, hg⟩
theorem First_ts (T : Ts w0 w p d kw h t) :
    Calls Try.prog 21 #[.pointer (some ⟨p, 0, none⟩), .int .i64 8] w fun e w' => e = .returned (.tuple #[.int .i64 (t.ids.headD 0), .int .i64 0]) ∧ Ts w0 w' p d kw h t ∧ w.grownBy w' (some d) := by
  obtain ⟨k, hk, hL⟩ := low_of T.F
  refine (First_hs T.S hk hL).mono ?_
  rintro e w' ⟨rfl, S', hg⟩
  exact ⟨rfl, T.with_ S', hg⟩
end
end Go.Proofs.Ythkppnkhiimaeaa
