/- code: signed. -/
import Derived.Test.YtmcafcgbbhcjhaaDoorCodJ
import Derived.Test.YtmcafcgbbhcjhaaDoorCodN
import Derived.Test.YtmcafcgbbhcjhaaDoorShelf
namespace Go.Proofs.YtmcafcgbbhcjhaaDoor
open Go.RowKit Go.Shelf Go.Proofs.YtmcafcgbbhcjhaaDoorW.PrintWords
attribute [local go_sem] Oper.semAt_some

def decB (n : Nat) : ByteArray := ⟨(Lib.decDigits n).toArray⟩
def signedB (n : Int) : ByteArray := if n < 0 then (⟨#[45, 32]⟩ : ByteArray) ++ decB (-n).toNat else decB n.toNat
theorem cat_run (x y : ByteArray) (h : x.size + y.size ≤ 9223372036854775807) : Op.stringOp .add x y = pure (.string (x ++ y)) := by
  have h2 : ¬ (((x.size + y.size : Nat) : Int) > IntKind.i64.max) := by
    have : IntKind.i64.max = 9223372036854775807 := rfl
    omega
  simp only [Op.stringOp, if_neg h2]
theorem dec_short : ∀ n, n < 100 → (Lib.decDigits n).length ≤ 2 := by
  intro n hn
  rw [Lib.decDigits]
  split
  · simp
  · rw [List.length_append, Lib.decDigits, dif_pos (by omega)]
    simp
theorem signed_any (n : Int) (h0 : -100 < n) (h1 : n < 100) (w : World) :
    Calls Tryd.prog 26 #[.int .i64 n] w fun e w' => e = .returned (.string (signedB n)) ∧ w = w' := by
  by_cases hn : n < 0
  · obtain ⟨k, hk⟩ := Int.eq_ofNat_of_zero_le (show 0 ≤ -n by omega)
    have hI := Lib.hid (Tryd.strconv_Itoa_small k (by omega))
    have HS := Lib.hid (show signedB n = (⟨#[45, 32]⟩ : ByteArray) ++ decB k by rw [signedB, if_pos hn, hk]; rfl)
    have hcat := cat_run ⟨#[45, 32]⟩ ⟨(Lib.decDigits k).toArray⟩ (by have := dec_short k (by omega); show 2 + (Lib.decDigits k).toArray.size ≤ _; rw [List.size_toArray]; omega)
    have hw : wrap64 (-n) = (k : Int) := by rw [hk, w64 _ (by omega)]
    go_enter Tryd.func26, Tryd.ntmps26
    go_wp2_with fail
    refine (hI.out _).mono ?_
    rintro e w' ⟨rfl, rfl⟩
    go_wp2
    go_ret
    exact ⟨ret_str (by rw [HS.out]; rfl), rfl⟩
  · obtain ⟨k, rfl⟩ := Int.eq_ofNat_of_zero_le (show 0 ≤ n by omega)
    have hI := Lib.hid (Tryd.strconv_Itoa_small k (by omega))
    have HS := Lib.hid (show signedB k = decB k by rw [signedB, if_neg hn]; rfl)
    go_enter Tryd.func26, Tryd.ntmps26
    go_wp2_with fail
    refine (hI.out _).mono ?_
    rintro e w' ⟨rfl, rfl⟩
    go_wp2
    go_ret
    exact ⟨ret_str (by rw [HS.out]; rfl), rfl⟩
end Go.Proofs.YtmcafcgbbhcjhaaDoor
