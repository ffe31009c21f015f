/- Two instructions compared. -/
import Derived.Test.YtlomgbackphmmaaDoorInS
import Derived.Test.YtlomgbackphmmaaDoorInBx
set_option linter.unusedVariables false
set_option linter.unusedSimpArgs false
namespace Go.Proofs.YtlomgbackphmmaaDoor
open Go.RowKit Go.Lib

theorem ins_eq {a b c d e a' b' c' d' e' : Int} : ((⟨a, b, c, d, e⟩ : Ins) = ⟨a', b', c', d', e'⟩) ↔ (a = a' ∧ b = b' ∧ c = c' ∧ d = d' ∧ e = e') := by
  rw [Ins.mk.injEq]
theorem eql_insn (a b c d e a' b' c' d' e' : Int) (w : World) :
    (binOp .eql 24 (.agg #[.int .u8 a, .int .u8 b, .int .u8 c, .int .u8 d, .int .u32 e]) (.agg #[.int .u8 a', .int .u8 b', .int .u8 c', .int .u8 d', .int .u32 e'])).run Tryd.prog w = .ok (.bool (decide ((⟨a, b, c, d, e⟩ : Ins) = ⟨a', b', c', d', e'⟩))) w := by
  by_cases h0 : a = a'
  · by_cases h1 : b = b'
    · by_cases h2 : c = c'
      · by_cases h3 : d = d'
        · by_cases h4 : e = e'
          · subst h0; subst h1; subst h2; subst h3; subst h4
            go_simp
          · rw [decide_eq_false (by rw [ins_eq]; exact fun h => h4 h.2.2.2.2)]
            have g4 : (e == e') = false := beq_eq_false_iff_ne.2 h4
            subst h0
            subst h1
            subst h2
            subst h3
            go_simp
        · rw [decide_eq_false (by rw [ins_eq]; exact fun h => h3 h.2.2.2.1)]
          have g3 : (d == d') = false := beq_eq_false_iff_ne.2 h3
          subst h0
          subst h1
          subst h2
          go_simp
      · rw [decide_eq_false (by rw [ins_eq]; exact fun h => h2 h.2.2.1)]
        have g2 : (c == c') = false := beq_eq_false_iff_ne.2 h2
        subst h0
        subst h1
        go_simp
    · rw [decide_eq_false (by rw [ins_eq]; exact fun h => h1 h.2.1)]
      have g1 : (b == b') = false := beq_eq_false_iff_ne.2 h1
      subst h0
      go_simp
  · rw [decide_eq_false (by rw [ins_eq]; exact fun h => h0 h.1)]
    have g0 : (a == a') = false := beq_eq_false_iff_ne.2 h0
    go_simp
theorem neq_insn (a b c d e a' b' c' d' e' : Int) (w : World) :
    (binOp .neq 24 (.agg #[.int .u8 a, .int .u8 b, .int .u8 c, .int .u8 d, .int .u32 e]) (.agg #[.int .u8 a', .int .u8 b', .int .u8 c', .int .u8 d', .int .u32 e'])).run Tryd.prog w = .ok (.bool (!decide ((⟨a, b, c, d, e⟩ : Ins) = ⟨a', b', c', d', e'⟩))) w := by
  by_cases h0 : a = a'
  · by_cases h1 : b = b'
    · by_cases h2 : c = c'
      · by_cases h3 : d = d'
        · by_cases h4 : e = e'
          · subst h0; subst h1; subst h2; subst h3; subst h4
            go_simp
          · rw [decide_eq_false (by rw [ins_eq]; exact fun h => h4 h.2.2.2.2)]
            have g4 : (e == e') = false := beq_eq_false_iff_ne.2 h4
            subst h0
            subst h1
            subst h2
            subst h3
            go_simp
        · rw [decide_eq_false (by rw [ins_eq]; exact fun h => h3 h.2.2.2.1)]
          have g3 : (d == d') = false := beq_eq_false_iff_ne.2 h3
          subst h0
          subst h1
          subst h2
          go_simp
      · rw [decide_eq_false (by rw [ins_eq]; exact fun h => h2 h.2.2.1)]
        have g2 : (c == c') = false := beq_eq_false_iff_ne.2 h2
        subst h0
        subst h1
        go_simp
    · rw [decide_eq_false (by rw [ins_eq]; exact fun h => h1 h.2.1)]
      have g1 : (b == b') = false := beq_eq_false_iff_ne.2 h1
      subst h0
      go_simp
  · rw [decide_eq_false (by rw [ins_eq]; exact fun h => h0 h.1)]
    have g0 : (a == a') = false := beq_eq_false_iff_ne.2 h0
    go_simp
end Go.Proofs.YtlomgbackphmmaaDoor
