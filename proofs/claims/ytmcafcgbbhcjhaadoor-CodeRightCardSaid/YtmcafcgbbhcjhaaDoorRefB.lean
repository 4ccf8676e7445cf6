/- reticentref08: Number, Signed, Instr, Right; reticentref06: Word. -/
import Derived.Test.YtmcafcgbbhcjhaaDoorCodP
namespace Go.Proofs.YtmcafcgbbhcjhaaDoor
open Go.RowKit Go.Shelf Go.Proofs.YtmcafcgbbhcjhaaDoorW.PrintWords
attribute [local go_sem] Oper.semAt_some

theorem rNumber_any (op : Int) (w : World) : Calls Tryd.prog 38 #[.int .i64 op] w fun e w' => e = .returned (.bool (spanOf op).isSome) ∧ w = w' := by
  have key : (spanOf op).isSome = (decide (op = 1) || decide (op = 8) || decide (op = 9) || decide (op = 10)) := by
    unfold spanOf
    by_cases h1 : op = 1
    · simp [h1]
    by_cases h8 : op = 8
    · simp [h8]
    by_cases h9 : op = 9
    · simp [h9]
    by_cases h10 : op = 10
    · simp [h10]
    simp [h1, h8, h9, h10]
  rw [key]
  have e1 := int_beq op 1
  have e8 := int_beq op 8
  have e9 := int_beq op 9
  have e10 := int_beq op 10
  cases h1 : decide (op = 1)
  · rw [h1] at e1
    cases h8 : decide (op = 8)
    · rw [h8] at e8
      cases h9 : decide (op = 9)
      · rw [h9] at e9
        clear h1 h8 h9 key
        go_enter Tryd.func38, Tryd.ntmps38
        go_wp2
        go_ret
        exact ⟨rfl, rfl⟩
      · rw [h9] at e9
        clear h1 h8 h9 key e10
        go_enter Tryd.func38, Tryd.ntmps38
        go_wp2
        go_ret
        exact ⟨rfl, rfl⟩
    · rw [h8] at e8
      clear h1 h8 key e9 e10
      go_enter Tryd.func38, Tryd.ntmps38
      go_wp2
      go_ret
      exact ⟨rfl, rfl⟩
  · rw [h1] at e1
    clear h1 key e8 e9 e10
    go_enter Tryd.func38, Tryd.ntmps38
    go_wp2
    go_ret
    exact ⟨rfl, rfl⟩
theorem rSigned_any (n : Int) (h0 : -100 < n) (h1 : n < 100) (w : World) :
    Calls Tryd.prog 39 #[.int .i64 n] w fun e w' => e = .returned (.string (signedB n)) ∧ w = w' := by
  by_cases hn : n < 0
  · obtain ⟨k, hk⟩ := Int.eq_ofNat_of_zero_le (show 0 ≤ -n by omega)
    have hI := Lib.hid (Tryd.strconv_Itoa_small k (by omega))
    have HS := Lib.hid (show signedB n = (⟨#[45, 32]⟩ : ByteArray) ++ decB k by rw [signedB, if_pos hn, hk]; rfl)
    have hcat := cat_run ⟨#[45, 32]⟩ ⟨(Lib.decDigits k).toArray⟩ (by have := dec_short k (by omega); show 2 + (Lib.decDigits k).toArray.size ≤ _; rw [List.size_toArray]; omega)
    have hw : wrap64 (0 - n) = (k : Int) := by rw [show (0 : Int) - n = -n by omega, hk, w64 _ (by omega)]
    have hw2 : (0 : Int) - n = (k : Int) := by omega
    go_enter Tryd.func39, Tryd.ntmps39
    go_wp2_with fail
    refine (hI.out _).mono ?_
    rintro e w' ⟨rfl, rfl⟩
    go_wp2
    go_ret
    exact ⟨ret_str (by rw [HS.out]; rfl), rfl⟩
  · obtain ⟨k, rfl⟩ := Int.eq_ofNat_of_zero_le (show 0 ≤ n by omega)
    have hI := Lib.hid (Tryd.strconv_Itoa_small k (by omega))
    have HS := Lib.hid (show signedB k = decB k by rw [signedB, if_neg hn]; rfl)
    go_enter Tryd.func39, Tryd.ntmps39
    go_wp2_with fail
    refine (hI.out _).mono ?_
    rintro e w' ⟨rfl, rfl⟩
    go_wp2
    go_ret
    exact ⟨ret_str (by rw [HS.out]; rfl), rfl⟩
end Go.Proofs.YtmcafcgbbhcjhaaDoor
