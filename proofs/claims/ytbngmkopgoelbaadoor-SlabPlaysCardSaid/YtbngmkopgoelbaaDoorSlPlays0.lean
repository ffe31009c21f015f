/- SlabPlays: each step beside the reference's. -/
import Derived.Test.YtbngmkopgoelbaaDoorSlRf1
set_option linter.unusedVariables false
set_option linter.unusedSimpArgs false
namespace Go.Proofs.YtbngmkopgoelbaaDoor
open Go.RowKit
theorem gb_cutP {bs : List Int} {a m k : Nat} (h : a + m ≤ bs.length) (hk : k < m) : gb (cutA bs (a : Int) (m : Int)) k = gb bs (a + k) := by
  unfold cutA
  rw [rErr_ok (by omega) (by omega) (by omega), if_pos rfl]
  unfold cutb gb
  rw [Int.toNat_natCast, Int.toNat_natCast, List.getD_eq_getElem?_getD, List.getD_eq_getElem?_getD, List.getElem?_take_of_lt hk, List.getElem?_drop]
theorem cut_lenP {bs : List Int} {a m : Nat} (h : a + m ≤ bs.length) : (cutA bs (a : Int) (m : Int)).length = m := by
  unfold cutA
  rw [rErr_ok (by omega) (by omega) (by omega), if_pos rfl, Int.toNat_natCast, Int.toNat_natCast, cutb_length _ _ _ h]

end Go.Proofs.YtbngmkopgoelbaaDoor
namespace Go.Proofs.YtbngmkopgoelbaaDoor.Ref
open Go.RowKit Go.Proofs.YtbngmkopgoelbaaDoorW.PrintWords Go.Proofs.YtbngmkopgoelbaaDoor.PSlabPlays
open Go.Proofs.YtbngmkopgoelbaaDoor (Ap upd upd_same upd_other isC cls cls_isC cls_ge allc tkn frd mny usd pgs Wf tkn_iff Got got tI tI_nat gb St Fr S3 vn row_fr row_below row_cells Alloc_some Alloc_none Alloc_bad Free_yes Free_no_st Block_st Used_st Pages_st Arena_st SNew_st SNew_bad)

section
variable {w0 w w1 : World} {s pa pd pp n B : Nat} {A : Nat → Ap} {bs : List Int} {R : List S82}
theorem St.wf' (S : St w0 w s pa pd pp n A bs) : Wf A n := by
  obtain ⟨f, P, hS, R⟩ := S.ex
  exact R.wf
/-- What an Alloc that went well says. -/
structure New (A : Nat → Ap) (n : Nat) (bs : List Int) (m : Int) (a : Nat) : Prop where
  lo : 1 ≤ m
  hi : m ≤ 256
  tk : tkn A a = true
  c : (A (a / 512)).c = cls m.toNat
  zero : ∀ j, a ≤ j → j < a + cls m.toNat → gb bs j = 0
theorem Alloc_both (S : St w0 w s pa pd pp n A bs) (Q : Sim A n R) (hn : 1 ≤ n) (m : Int) :
    Calls Tryd.prog 11 #[.pointer (some ⟨s, 0, none⟩), .int .i64 m] w fun e w' => ∃ (a : Nat) (c : Int) (A' : Nat → Ap) (bs' : List Int) (R' : List S82) (k : Nat),
      e = .returned (.tuple #[.int .i64 (a : Int), .int .i64 c]) ∧ St w0 w' s pa pd pp n A' bs' ∧ Sim A' n R' ∧ Fr (S3 s pd pp) w w' ∧ turnbuckleref03_Alloc.f k R m = some (R', (a : Int), c) ∧ (c = 0 ∧ New A' n bs' m a ∨ (c == 0) = false) := by
  by_cases h : m < 1 ∨ 256 < m
  · refine (Alloc_bad _ m w h).mono ?_
    rintro e w' ⟨he, rfl⟩
    obtain ⟨k, hk⟩ := Alloc_ref_bad R m h
    exact ⟨0, 1, A, bs, R, k, he, S, Q, Fr.refl _ _, hk, .inr rfl⟩
  · obtain ⟨M, rfl⟩ := Int.eq_ofNat_of_zero_le (show 0 ≤ m by omega)
    have h1 : 1 ≤ M := by omega
    have h2 : M ≤ 256 := by omega
    have W := St.wf' S
    cases hal : allc A n (cls M) with
    | none =>
      refine (Alloc_none S M h1 h2 hal).mono ?_
      rintro e w' ⟨he, S', hF⟩
      obtain ⟨k, hk⟩ := Alloc_ref_full Q W hn M h1 h2 hal
      exact ⟨0, 5, A, bs, R, k, he, S', Q, hF, hk, .inr rfl⟩
    | some r =>
      obtain ⟨a, A'⟩ := r
      have G := got W hal
      refine (Alloc_some S M a h1 h2 hal).mono ?_
      rintro e w' ⟨he, bs', S', _, hz, hF⟩
      obtain ⟨k, R', hk, Q'⟩ := Alloc_ref Q W hn M a h1 h2 hal
      exact ⟨a, 0, A', bs', R', k, he, S', Q', hF, hk, .inl ⟨rfl, ⟨by omega, by omega, G.tk, by rw [G.c, Int.toNat_natCast], by rw [Int.toNat_natCast]; exact hz⟩⟩⟩
theorem Free_both (S : St w0 w s pa pd pp n A bs) (Q : Sim A n R) (at_ : Int) :
    Calls Tryd.prog 13 #[.pointer (some ⟨s, 0, none⟩), .int .i64 at_] w fun e w' => ∃ (c : Int) (A' : Nat → Ap) (bs' : List Int) (R' : List S82) (k : Nat),
      e = .returned (.int .i64 c) ∧ St w0 w' s pa pd pp n A' bs' ∧ Sim A' n R' ∧ Fr (S3 s pd pp) w w' ∧ turnbuckleref03_Free.f k R at_ = some (R', c) := by
  have W := St.wf' S
  cases ht : tI A at_ with
  | false =>
    refine (Free_no_st S at_ ht).mono ?_
    rintro e w' ⟨he, S', hF⟩
    obtain ⟨k, hk⟩ := Free_ref_no Q W at_ ht
    exact ⟨1, A, bs, R, k, he, S', Q, hF, hk⟩
  | true =>
    have h0 : 0 ≤ at_ := by
      unfold Go.Proofs.YtbngmkopgoelbaaDoor.tI at ht
      simp only [Bool.and_eq_true, decide_eq_true_eq] at ht
      exact ht.1
    obtain ⟨a, rfl⟩ := Int.eq_ofNat_of_zero_le h0
    rw [tI_nat] at ht
    refine (Free_yes S a ht).mono ?_
    rintro e w' ⟨he, bs', S', _, hF⟩
    obtain ⟨k, R', hk, Q'⟩ := Free_ref Q W a ht
    exact ⟨0, frd A a, bs', R', k, he, S', Q', hF, hk⟩
theorem Block_both (S : St w0 w s pa pd pp n A bs) (Q : Sim A n R) (at_ : Int) :
    Calls Tryd.prog 12 #[.pointer (some ⟨s, 0, none⟩), .int .i64 at_] w fun e w' => ∃ (c : Int) (b : Bool) (k : Nat),
      e = .returned (.tuple #[.int .i64 c, .bool b]) ∧ Below w.heap.size w w' ∧ turnbuckleref03_Block.f k R at_ = some (c, b) := by
  obtain ⟨k, hk⟩ := Block_ref Q (St.wf' S) at_
  refine (Block_st S at_).mono ?_
  rintro e w' ⟨he, hB⟩
  unfold blkR at hk
  cases ht : tI A at_ with
  | false =>
    rw [ht] at he hk
    exact ⟨0, false, k, he, hB, hk⟩
  | true =>
    rw [ht] at he hk
    exact ⟨_, true, k, he, hB, hk⟩

/-- Beside the slab: what was told, and the reference's pages. -/
structure Rv (w : World) (B : Nat) (l : Value) (L : List Nat) (v : Value) (R : List S82) : Prop where
  v : Kd.V k82 82 w B (fun k => B ≤ k ∧ some k ≠ l.ownBlock) v R
  row : w.ownsRow B 3 1 l L.length (vn L)
  le : B ≤ w.heap.size
variable {l v l1 v1 : Value} {L L1 : List Nat} {R1 : List S82}
theorem Rv.fr (h : Rv w B l L v R) (hF : Fr (S3 s pd pp) w w1) (hs : s < B ∧ pa < B ∧ pd < B ∧ pp < B) : Rv w1 B l L v R :=
  ⟨Kd.V_step h.v (fun k hk hlt => hF.block k hlt (by rintro (h | h | h) <;> omega)), row_fr h.row hF hs, Nat.le_trans h.le hF.size⟩
theorem Rv.below (h : Rv w B l L v R) (hb : Below w.heap.size w w1) : Rv w1 B l L v R :=
  ⟨Kd.V_below h.v hb, row_below h.row hb, Nat.le_trans h.le hb.size⟩
/-- Behind a step of the reference. -/
theorem Rv.ref (h : Rv w B l L v R) {b : Nat} (hv : Kd.V k82 82 w1 b (fun k => (B ≤ k ∧ some k ≠ l.ownBlock) ∨ w.heap.size ≤ k) v1 R1) (hb : Below w.heap.size w w1) : Rv w1 B l L v1 R1 :=
  ⟨Kd.V_mono (Kd.V_lower (base' := b) hv (Nat.le_refl _)) (fun k hk => by
    rcases hk with hk | hk
    · exact hk
    · refine ⟨Nat.le_trans h.le hk, fun e => ?_⟩
      have := (h.row.lt k e.symm).2
      omega), row_below h.row hb, Nat.le_trans h.le hb.size⟩
/-- Behind one more that is told. -/
theorem Rv.told (h : Rv w B l L v R) (hg : w.grownBy w1 l.ownBlock) (hat : l1.ownBlock = l.ownBlock ∨ ∃ b, l1.ownBlock = some b ∧ w.heap.size ≤ b) (hr : w1.ownsRow B 3 1 l1 L1.length (vn L1)) : Rv w1 B l1 L1 v R :=
  ⟨Kd.V_after h.v hg hat, hr, Nat.le_trans h.le hg.size⟩
theorem Rv.start {b : Nat} (hS : Kd.S k82 82 w1 w.heap.size (fun _ => True) v R) (hb : Below w.heap.size w w1) : Rv w1 w.heap.size (.slice none 0 0) [] v R :=
  ⟨Kd.V_mono (Kd.S_V (base' := w.heap.size) (Kd.S_bound hS)) (fun k hk => ⟨hk.2.1, by simp [Value.ownBlock]⟩), World.ownsRow_nil _ _ _ _, hb.size⟩
end
end Go.Proofs.YtbngmkopgoelbaaDoor.Ref
