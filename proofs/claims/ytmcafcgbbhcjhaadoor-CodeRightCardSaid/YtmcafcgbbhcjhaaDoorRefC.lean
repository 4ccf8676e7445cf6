/- reticentref08: Instr. -/
import Derived.Test.YtmcafcgbbhcjhaaDoorCodB
namespace Go.Proofs.YtmcafcgbbhcjhaaDoor
open Go.RowKit Go.Shelf Go.Proofs.YtmcafcgbbhcjhaaDoorW.PrintWords
attribute [local go_sem] Oper.semAt_some

set_option maxRecDepth 100000 in
set_option maxHeartbeats 2000000 in
theorem rInstr_any (m : Int) (x : Instr) (w : World) :
    Calls Tryd.prog 31 #[.int .i64 m, .agg #[.int .i64 x.op, .int .i64 x.n, .int .i64 x.l]] w fun e w' => e = .returned (.bool (instrOk m x)) ∧ Below w.heap.size w w' := by
  have HB := Lib.hid (below_new (w := w) (.cells #[.int .i64 x.op, .int .i64 x.n, .int .i64 x.l] 51))
  obtain ⟨op, n, l⟩ := x
  have HR : Hid (∀ b, instrOk m ⟨op, n, l⟩ = b → Ending.returned (Value.bool b) = .returned (.bool (instrOk m ⟨op, n, l⟩))) := Lib.hid (fun b h => by rw [h])
  by_cases h1 : op = 1
  · subst h1
    have hk : instrOk m ⟨1, n, l⟩ = (decide (-20 ≤ n) && decide (n ≤ 20) && decide (0 ≤ l) && decide (l < m)) := by
      simp [instrOk, fitsB, spanOf, Bool.and_assoc]
    rw [hk]
    clear HR hk
    cases e1 : decide (-20 ≤ n) <;> cases e2 : decide (n ≤ 20) <;> cases e3 : decide (0 ≤ l) <;> cases e4 : decide (l < m) <;>
      (go_enter Tryd.func31, Tryd.ntmps31
       go_wp2
       go_ret
       exact ⟨rfl, HB.out⟩)
  · have e1 : (op == 1) = false := by simpa using h1
    by_cases h0 : op < 0
    · have hk : instrOk m ⟨op, n, l⟩ = false := by simp [instrOk, Int.not_le.2 h0]
      rw [hk]
      clear HR hk h1
      (go_enter Tryd.func31, Tryd.ntmps31; go_wp2; go_ret; exact ⟨by first | rfl | exact ret_bool (by simp [*]), HB.out⟩)
    · by_cases h12 : 12 < op
      · have hk : instrOk m ⟨op, n, l⟩ = false := by simp [instrOk, show ¬ op < 13 by omega]
        rw [hk]
        clear HR hk h1
        (go_enter Tryd.func31, Tryd.ntmps31; go_wp2; go_ret; exact ⟨by first | rfl | exact ret_bool (by simp [*]), HB.out⟩)
      · by_cases hl : l = 0
        · subst hl
          by_cases h8 : op = 8
          · subst h8
            have hk : instrOk m ⟨8, n, 0⟩ = (decide (0 ≤ n) && decide (n ≤ 12)) := by simp [instrOk, fitsB, spanOf]
            rw [hk]
            clear HR hk h1 h0 h12 e1
            cases e2 : decide (0 ≤ n) <;> cases e3 : decide (n ≤ 12) <;> (go_enter Tryd.func31, Tryd.ntmps31; go_wp2; go_ret; exact ⟨by first | rfl | exact ret_bool (by simp [*]), HB.out⟩)
          · have e8 : (op == 8) = false := by simpa using h8
            by_cases h9 : op = 9
            · subst h9
              have hk : instrOk m ⟨9, n, 0⟩ = (decide (0 ≤ n) && decide (n ≤ 3)) := by simp [instrOk, fitsB, spanOf]
              rw [hk]
              clear HR hk h1 h0 h12 e1 h8 e8
              cases e2 : decide (0 ≤ n) <;> cases e3 : decide (n ≤ 3) <;> (go_enter Tryd.func31, Tryd.ntmps31; go_wp2; go_ret; exact ⟨by first | rfl | exact ret_bool (by simp [*]), HB.out⟩)
            · have e9 : (op == 9) = false := by simpa using h9
              by_cases h10 : op = 10
              · subst h10
                have hk : instrOk m ⟨10, n, 0⟩ = (decide (n = 0) || decide (n = 1)) := by
                  simp only [instrOk, fitsB, spanOf]
                  by_cases n0 : n = 0
                  · simp [n0]
                  · by_cases n1 : n = 1
                    · simp [n1]
                    · simp [n0, n1]; omega
                rw [hk]
                clear HR hk h1 h0 h12 e1 h8 e8 h9 e9
                have q0 := int_beq n 0
                have q1 := int_beq n 1
                cases e2 : decide (n = 0)
                · rw [e2] at q0
                  cases e3 : decide (n = 1)
                  · rw [e3] at q1
                    clear e2 e3
                    (go_enter Tryd.func31, Tryd.ntmps31; go_wp2; go_ret; exact ⟨by first | rfl | exact ret_bool (by simp [*]), HB.out⟩)
                  · rw [e3] at q1
                    clear e2 e3
                    (go_enter Tryd.func31, Tryd.ntmps31; go_wp2; go_ret; exact ⟨by first | rfl | exact ret_bool (by simp [*]), HB.out⟩)
                · rw [e2] at q0
                  clear e2 q1
                  (go_enter Tryd.func31, Tryd.ntmps31; go_wp2; go_ret; exact ⟨by first | rfl | exact ret_bool (by simp [*]), HB.out⟩)
              · have e10 : (op == 10) = false := by simpa using h10
                have hk : instrOk m ⟨op, n, 0⟩ = decide (n = 0) := by simp [instrOk, fitsB, spanOf, h1, h8, h9, h10, Int.not_lt.1 h0, show op < 13 by omega]
                rw [hk]
                clear HR hk h1 h8 h9 h10
                have q0 := int_beq n 0
                cases e2 : decide (n = 0)
                · rw [e2] at q0
                  clear e2
                  (go_enter Tryd.func31, Tryd.ntmps31; go_wp2; go_ret; exact ⟨by first | rfl | exact ret_bool (by simp [*]), HB.out⟩)
                · rw [e2] at q0
                  clear e2
                  (go_enter Tryd.func31, Tryd.ntmps31; go_wp2; go_ret; exact ⟨by first | rfl | exact ret_bool (by simp [*]), HB.out⟩)
        · have hk : instrOk m ⟨op, n, l⟩ = false := by simp [instrOk, h1, hl]
          have el : (l != 0) = true := by simpa using hl
          rw [hk]
          clear HR hk h1 hl
          (go_enter Tryd.func31, Tryd.ntmps31; go_wp2; go_ret; exact ⟨by first | rfl | exact ret_bool (by simp [*]), HB.out⟩)
end Go.Proofs.YtmcafcgbbhcjhaaDoor
