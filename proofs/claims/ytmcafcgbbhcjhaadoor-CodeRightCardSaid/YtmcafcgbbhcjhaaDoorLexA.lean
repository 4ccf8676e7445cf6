/- lex: while, letter, digit, token. -/
import Derived.Test.YtmcafcgbbhcjhaaDoorCodH
import Derived.Test.YtmcafcgbbhcjhaaDoorShelf
namespace Go.Proofs.YtmcafcgbbhcjhaaDoor
open Go.RowKit Go.Shelf Go.Proofs.YtmcafcgbbhcjhaaDoorW.PrintWords
attribute [local go_sem] Oper.semAt_some

def digitB (c : UInt8) : Bool := decide (48 ≤ c.toNat) && decide (c.toNat ≤ 57)
def notNl (c : UInt8) : Bool := !decide (c.toNat = 10)
theorem letter_any (c : UInt8) (w : World) : Calls Tryd.prog 109 #[.int .u8 ((c.toNat : Nat) : Int)] w fun e w' => e = .returned (.bool (lowerB c)) ∧ w = w' := by
  by_cases h : 97 ≤ c.toNat
  · go_enter Tryd.func109, Tryd.ntmps109
    go_wp2
    go_ret
    exact ⟨ret_bool (by simp [lowerB, h]; try omega), rfl⟩
  · go_enter Tryd.func109, Tryd.ntmps109
    go_wp2
    go_ret
    exact ⟨ret_bool (by simp [lowerB, h]; try omega), rfl⟩
theorem digit_any (c : UInt8) (w : World) : Calls Tryd.prog 110 #[.int .u8 ((c.toNat : Nat) : Int)] w fun e w' => e = .returned (.bool (digitB c)) ∧ w = w' := by
  by_cases h : 48 ≤ c.toNat
  · go_enter Tryd.func110, Tryd.ntmps110
    go_wp2
    go_ret
    exact ⟨ret_bool (by simp [digitB, h]; try omega), rfl⟩
  · go_enter Tryd.func110, Tryd.ntmps110
    go_wp2
    go_ret
    exact ⟨ret_bool (by simp [digitB, h]; try omega), rfl⟩
theorem notNl_any (c : UInt8) (w : World) : Calls Tryd.prog 108 #[.int .u8 ((c.toNat : Nat) : Int)] w fun e w' => e = .returned (.bool (notNl c)) ∧ w = w' := by
  go_enter Tryd.func108, Tryd.ntmps108
  go_wp2
  go_ret
  exact ⟨ret_bool (by rw [notNl, ← decide_not]; by_cases e : c.toNat = 10 <;> simp [e]; omega), rfl⟩
def whileN (p : UInt8 → Bool) (l : List UInt8) : Nat := (l.takeWhile p).length
theorem whileN_at {p : UInt8 → Bool} : ∀ (l : List UInt8) (k : Nat) (x : UInt8), l[k]? = some x → (l.take k).all p = true → p x = false → whileN p l = k
  | [], _, _, h, _, _ => by simp at h
  | c :: l, 0, x, h, _, hp => by
    simp at h
    subst h
    simp [whileN, hp]
  | c :: l, k + 1, x, h, ha, hp => by
    simp at h
    simp only [List.take_succ_cons, List.all_cons, Bool.and_eq_true] at ha
    have := whileN_at l k x h ha.2 hp
    simp only [whileN] at this
    simp [whileN, ha.1, this]
theorem whileN_stop {p : UInt8 → Bool} {s : ByteArray} {k : Nat} (hk : k < s.size) (ha : (s.data.toList.take k).all p = true) (hp : p s[k] = false) : whileN p s.data.toList = k :=
  whileN_at _ k s[k] (by rw [Array.getElem?_toList, Array.getElem?_eq_getElem hk]; rfl) ha hp
theorem whileN_all {p : UInt8 → Bool} {l : List UInt8} (ha : l.all p = true) : whileN p l = l.length := by
  induction l with
  | nil => rfl
  | cons c l ih =>
    simp only [List.all_cons, Bool.and_eq_true] at ha
    have := ih ha.2
    simp only [whileN] at this
    simp [whileN, ha.1, this]
set_option maxRecDepth 100000 in
theorem while_any (s : ByteArray) (hs : s.size ≤ 9223372036854775807) (fn : FuncId) (hE : EntersF fn) (p : UInt8 → Bool)
    (hp : ∀ (c : UInt8) (W : World), Calls Tryd.prog fn #[.int .u8 ((c.toNat : Nat) : Int)] W fun e w' => e = .returned (.bool (p c)) ∧ W = w') (w : World) :
    Calls Tryd.prog 107 #[.string s, .func (.func fn) #[] #[]] w fun e w' => e = .returned (.int .i64 (whileN p s.data.toList : Nat)) ∧ w = w' := by
  have HP := Lib.hid hp
  clear hp
  go_enter Tryd.func107, Tryd.ntmps107
  go_wp2
  go_loop [5] (fun i => ∃ k : Nat, k ≤ s.size ∧ i = .int .i64 k ∧ (s.data.toList.take k).all p = true) (fun i => s.size - (intOf i).toNat)
  case atStart => exact ⟨0, Nat.zero_le _, rfl, rfl⟩
  case round =>
    obtain ⟨k, hk, rfl, hall⟩ := hrel
    have HA := Lib.hid hall
    clear hall
    by_cases hlt : k < s.size
    · have HT := Lib.hid (take_snocB s k hlt)
      have hE' := hE
      unfold EntersF at hE'
      have hP := Lib.hid (HP.out s[k] w)
      cases hpx : p s[k] with
      | true =>
        have HQ := Lib.hid hpx
        rw [hpx] at hP
        clear hpx
        go_wp2_with (refine hP.out.mono ?_; rintro e w' ⟨rfl, rfl⟩)
        go_round
        case rel => exact ⟨k + 1, by omega, by go_num, by rw [HT.out, List.all_append, HA.out]; simp [HQ.out]⟩
        case measure => simp [intOf]; omega
      | false =>
        have HQ := Lib.hid hpx
        rw [hpx] at hP
        clear hpx
        go_wp2_with (refine hP.out.mono ?_; rintro e w' ⟨rfl, rfl⟩)
        go_ret
        exact ⟨ret_int (by rw [whileN_stop hlt HA.out HQ.out]), rfl⟩
    · have : k = s.size := by omega
      subst this
      have he : s.data.toList.take s.size = s.data.toList := List.take_of_length_le (by simp)
      rw [he] at HA
      clear he
      go_wp2
      go_ret
      exact ⟨ret_int (by rw [whileN_all HA.out]; simp), rfl⟩
end Go.Proofs.YtmcafcgbbhcjhaaDoor
