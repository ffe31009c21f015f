/- The chain's functions (layer 10): All. -/
import Derived.Test.YtajbfjmbohkphaaCh3
set_option linter.unusedVariables false
set_option linter.unusedSimpArgs false
namespace Go.Proofs.Ytajbfjmbohkphaa
open Go.RowKit

/-- From a on, these are the nodes. -/
def ch (bs : List Int) : Int → List Int → Prop
  | a, [] => a = 0
  | a, x :: L => a = x ∧ x ≠ 0 ∧ inn bs x 16 = true ∧ ch bs (gt bs x) L
def nums (L : List Int) : List Value := L.map (Value.int .i64)
theorem nums_snoc (L : List Int) (x : Int) : nums L ++ [Value.int .i64 x] = nums (L ++ [x]) := by simp [nums]
theorem Ar.other {w w1 : World} {p d : Nat} {bs : List Int} (h : Ar w p d bs) {r : Option Nat} (hg : w.grownBy w1 r) (hne : ∀ k, r = some k → k ≠ p ∧ k ≠ d) : Ar w1 p d bs :=
  ⟨(hg.block p h.lt.1 (fun e => (hne p e.symm).1 rfl)).trans h.hdr, (hg.block d h.lt.2 (fun e => (hne d e.symm).2 rfl)).trans h.row, h.ne, h.len, h.rng⟩
def lenV : Value → Nat
  | .slice _ n _ => n
  | _ => 0
theorem lenV_row {w : World} {base e size n : Nat} {v : Value} {xs : List Value} (h : w.ownsRow base e size v n xs) : lenV v = n := by
  rcases h.2 with ⟨rfl, h0⟩ | ⟨g, cap, cur, rfl, _⟩
  · exact h0.symm
  · rfl
theorem row_form {w : World} {base e size n : Nat} {v : Value} {xs : List Value} (h : w.ownsRow base e size v n xs) : ∃ A c, v = .slice A n c := by
  rcases h.2 with ⟨rfl, rfl⟩ | ⟨g, cap, cur, rfl, _⟩
  · exact ⟨_, _, rfl⟩
  · exact ⟨_, _, rfl⟩
theorem int_info : (Try.prog.info? 3).map (fun i => (i.zero, i.size, i.bytes)) = some (some (.int .i64 0), 1, 8) := by kernel_rfl

section
variable {w0 w w1 : World} {p d : Nat} {bs : List Int}

theorem All_far (head : Int) (w : World) (hA : Ar w p d bs) (h : inn bs head 8 = false) :
    Calls Try.prog 14 #[.pointer (some ⟨p, 0, none⟩), .int .i64 head] w fun e w' =>
      e = .returned (.tuple #[.slice none 0 0, .int .i64 4]) ∧ Ar w' p d bs ∧ w.grownBy w' (some d) := by
  have HA := Lib.hid hA
  clear hA
  go_enter Try.func14, Try.ntmps14
  go_wp2_with fail
  refine (End_any head true _ HA.out).mono ?_
  rintro e w1 ⟨rfl, L1⟩
  rw [h]
  have HL := Lib.hid L1
  clear L1
  go_wp2_with fail
  refine wp_loop_rounds 1 ?_
  rw [rounds_succ]
  go_wp2
  go_ret2
  exact ⟨rfl, HL.out.ar, HL.out.gr⟩

set_option maxHeartbeats 1000000 in
theorem All_any (head : Int) (L : List Int) (w : World) (hA : Ar w p d bs) (h : inn bs head 8 = true) (hc : ch bs (gt bs head) L) (hn : L.length ≤ 9999) :
    Calls Try.prog 14 #[.pointer (some ⟨p, 0, none⟩), .int .i64 head] w fun e w' =>
      ∃ v, e = .returned (.tuple #[v, .int .i64 0]) ∧ w'.ownsRow w.heap.size 3 1 v L.length (nums L) ∧ Ar w' p d bs ∧ w.grownBy w' (some d) := by
  have HA := Lib.hid hA
  have HC := Lib.hid hc
  have hlt := hA.lt
  obtain ⟨i0, hi, hz0, hz1, hz2⟩ := info_parts int_info
  clear hA hc
  go_enter Try.func14, Try.ntmps14
  go_wp2_with fail
  refine (End_any head true _ HA.out).mono ?_
  rintro e w1 ⟨rfl, L1⟩
  rw [h]
  simp only [if_true, Int.add_zero]
  have HL := Lib.hid L1
  clear L1
  go_wp2_with fail
  go_loopw [6, 7, 8] (fun nd e v wr => ∃ (pre rest : List Int) (x : Int), L = pre ++ rest ∧ nd = .int .i64 x ∧ e = .int .i64 0 ∧ ch bs x rest ∧ wr.ownsRow w.heap.size 3 1 v pre.length (nums pre) ∧ Ar wr p d bs ∧ w.grownBy wr (some d))
    (fun nd e v wr => L.length - lenV v)
  case atStart => exact ⟨[], L, _, rfl, rfl, rfl, HC.out, World.ownsRow_nil _ _ _ _, HL.out.ar, HL.out.gr⟩
  case round =>
    clear HL HC
    obtain ⟨pre, rest, x, hL, rfl, rfl, hch, hrow, hAr, hgr⟩ := hrel
    have HAr := Lib.hid hAr
    have HGr := Lib.hid hgr
    have HRow := Lib.hid hrow
    have hlen := hAr.len
    obtain ⟨A8, c8, rfl⟩ := row_form hrow
    have hpl : pre.length + rest.length = L.length := by rw [hL, List.length_append]
    clear hAr hgr hrow
    cases rest with
    | nil =>
      obtain rfl : x = 0 := hch
      have hpe : L = pre := by rw [hL]; simp
      go_wp2
      go_ret2
      exact ⟨_, rfl, by rw [hpe]; exact HRow.out, HAr.out, HGr.out⟩
    | cons y rest =>
      obtain ⟨rfl, hx0, hin, hch2⟩ := hch
      have HIN := Lib.hid hin
      have HCH := Lib.hid hch2
      have HL := Lib.hid hL
      have hne : (x != 0) = true := by rw [bne_iff_ne]; exact hx0
      have hp2 : pre.length < 9999 := by simp at hpl; omega
      clear hx0 hin hch2 hL
      go_wp2_with (at_builtin; refine wpList_append_own _ rfl _ _ 29 rfl w.heap.size 3 i0 (.int .i64 0) 1 8 Try.underlying29 hi hz0 hz1 hz2 rfl (by decide) _ _ _ rfl (HRow.out.alloc _) ⟨wr.heap.size, 0, none⟩ 1 1 [.int .i64 x] rfl rfl ?c1 ?c2 ?c3 ?c4 ?c5 ?_)
      case c1 =>
        intro j u hj
        match j, hj with
        | 0, hj => simp at hj; subst hj; simp [Addr.add]
      case c2 => intro u hu; simp at hu; subst hu; rfl
      case c3 => unfold maxLen; omega
      case c4 => omega
      case c5 => have := HGr.out.size; simp; omega
      · intro v' w4 hown4 hg4 _
        rw [nums_snoc] at hown4
        have HO4 := Lib.hid hown4
        have hrowlt := (HRow.out.alloc (.cells #[.int .i64 x] 3)).lt
        have HA4 : Hid (Ar w4 p d bs) := Lib.hid ((HAr.out.below ((Below.refl _ _).alloc (Nat.le_refl _) _)).other hg4 (fun k hk => by have := (hrowlt k hk).1; exact ⟨by omega, by omega⟩))
        have HG4 : Hid (w.grownBy w4 (some d)) := Lib.hid ((HGr.out.trans (World.grownBy_alloc _ _ _)).andThen hg4 (fun k hk => .inl (hrowlt k hk).1))
        clear hown4 hg4 hrowlt HRow HAr HGr
        go_wp2_with fail
        refine (Next_any x true _ HA4.out).mono ?_
        rintro e w5 ⟨rfl, L5⟩
        rw [HIN.out]
        simp only [if_true, Int.add_zero]
        have HL5 := Lib.hid L5
        have HO5 : Hid (w5.ownsRow w.heap.size 3 1 v' (pre.length + 1) (nums (pre ++ [x]))) := Lib.hid (HO4.out.kept L5.gr (by
          cases hb : v'.ownBlock with
          | none => exact .inl rfl
          | some k => exact .inr (fun e => by injection e with e; have := (HO4.out.lt k hb).1; omega)))
        have hv' := lenV_row HO4.out
        clear L5 HO4
        go_wp2
        go_roundw
        case rel => exact ⟨pre ++ [x], rest, _, by rw [HL.out]; simp, rfl, rfl, HCH.out, by rw [List.length_append]; exact HO5.out, HL5.out.ar, HG4.out.trans HL5.out.gr⟩
        case measure => rw [hv']; show L.length - (pre.length + 1) < L.length - pre.length; simp at hpl; omega
end
end Go.Proofs.Ytajbfjmbohkphaa
