/- reticentref01: Flows, high, Name. -/
import Derived.Test.YtmcafcgbbhcjhaaDoorLatF
namespace Go.Proofs.YtmcafcgbbhcjhaaDoor
open Go.RowKit Go.Shelf Go.Proofs.YtmcafcgbbhcjhaaDoorW.PrintWords
attribute [local go_sem] Oper.semAt_some

theorem half_pow (x k : Nat) : x / 2 ^ k / 2 = x / 2 ^ (k + 1) := by rw [Nat.div_div_eq_div_mul, Nat.pow_succ]
set_option maxRecDepth 100000 in
set_option maxHeartbeats 400000 in
theorem rFlows_any {w : World} {An Au : Option Addr} {cn cu : Nat} {L : Lat} (hL : LatAt w An cn Au cu L) {a b : Nat} (ha : a < L.up.length) (hb : b ≤ 9223372036854775806) :
    Calls Tryd.prog 66 #[.agg #[.slice An L.names.length cn, .slice Au L.up.length cu], .int .i64 a, .int .i64 b] w fun e w' => e = .returned (.bool (flowsB L a b)) ∧ Below w.heap.size w w' := by
  have hm := hL.lenu
  obtain ⟨ad, rfl, hc, hblk⟩ := hL.at_up (k := a) ha
  obtain ⟨u, hu⟩ : ∃ u, u = upAt L a := ⟨_, rfl⟩
  have hlt : u < 4294967296 := by rw [hu]; exact hL.upAt_lt a
  rw [← hu] at hc
  have HF := Lib.hid (show flowsB L a b = decide (u / 2 ^ b % 2 = 1) by rw [hu, flowsB, Nat.testBit_eq_decide_div_mod_eq])
  have HB := Lib.hid (below_new (w := w) (.cells #[.slice An L.names.length cn, .slice (some ad) L.up.length cu] 25))
  clear hL hu
  go_enter Tryd.func66, Tryd.ntmps66
  go_wp2
  go_loop [7, 8] (fun n i => ∃ k : Nat, k ≤ b ∧ i = .int .i64 k ∧ n = .int .u32 ((u / 2 ^ k : Nat) : Int)) (fun _ i => b - (intOf i).toNat)
  case atStart => exact ⟨0, Nat.zero_le _, rfl, by rw [Nat.pow_zero, Nat.div_one]⟩
  case round =>
    obtain ⟨k, hk, rfl, rfl⟩ := hrel
    by_cases hlt2 : k < b
    · have hd : u / 2 ^ k < 4294967296 := Nat.lt_of_le_of_lt (Nat.div_le_self _ _) hlt
      obtain ⟨v, hv⟩ : ∃ v, v = u / 2 ^ k := ⟨_, rfl⟩
      rw [← hv] at hd ⊢
      have HV := Lib.hid hv
      clear hv
      go_wp2
      go_round
      case rel => exact ⟨k + 1, by omega, by go_num, by rw [← half_pow, ← HV.out]; rfl⟩
      case measure => simp [intOf]; omega
    · have : k = b := by omega
      subst this
      obtain ⟨v, hv⟩ : ∃ v, v = u / 2 ^ k := ⟨_, rfl⟩
      have hd : v < 4294967296 := by rw [hv]; exact Nat.lt_of_le_of_lt (Nat.div_le_self _ _) hlt
      rw [← hv] at HF ⊢
      clear hv
      go_wp2
      go_ret
      exact ⟨ret_bool (by rw [HF.out]; by_cases e : v % 2 = 1 <;> simp [e] <;> omega), HB.out⟩
def highB (u b : Nat) : Bool := !decide (u / 2 ^ b = 0)
set_option maxRecDepth 100000 in
set_option maxHeartbeats 400000 in
theorem rHigh_any (u b : Nat) (hlt : u < 4294967296) (hb : b ≤ 9223372036854775806) (w : World) :
    Calls Tryd.prog 65 #[.int .u32 (u : Int), .int .i64 b] w fun e w' => e = .returned (.bool (highB u b)) ∧ w = w' := by
  go_enter Tryd.func65, Tryd.ntmps65
  go_wp2
  go_loop [0, 5] (fun n i => ∃ k : Nat, k ≤ b ∧ i = .int .i64 k ∧ n = .int .u32 ((u / 2 ^ k : Nat) : Int)) (fun _ i => b - (intOf i).toNat)
  case atStart => exact ⟨0, Nat.zero_le _, rfl, by rw [Nat.pow_zero, Nat.div_one]⟩
  case round =>
    obtain ⟨k, hk, rfl, rfl⟩ := hrel
    by_cases hlt2 : k < b
    · have hd : u / 2 ^ k < 4294967296 := Nat.lt_of_le_of_lt (Nat.div_le_self _ _) hlt
      obtain ⟨v, hv⟩ : ∃ v, v = u / 2 ^ k := ⟨_, rfl⟩
      rw [← hv] at hd ⊢
      have HV := Lib.hid hv
      clear hv
      go_wp2
      go_round
      case rel => exact ⟨k + 1, by omega, by go_num, by rw [← half_pow, ← HV.out]; rfl⟩
      case measure => simp [intOf]; omega
    · have : k = b := by omega
      subst this
      obtain ⟨v, hv⟩ : ∃ v, v = u / 2 ^ k := ⟨_, rfl⟩
      have HV := Lib.hid hv
      rw [← hv]
      clear hv
      go_wp2
      go_ret
      refine ⟨ret_bool ?_, rfl⟩
      rw [highB, ← HV.out]
      by_cases e : v = 0
      · subst e; rfl
      · have h0 : (0 : Int) < (v : Int) := by omega
        first | (rw [decide_eq_false e, decide_eq_true (Nat.pos_of_ne_zero e)]; rfl) | (rw [decide_eq_false e, decide_eq_true h0]; rfl) | (simp [e, h0]) | (simp [e]; omega)
set_option maxHeartbeats 400000 in
theorem rName_any (s : ByteArray) (w : World) (hs : s.size ≤ 9223372036854775807) :
    Calls Tryd.prog 64 #[.string s] w fun e w' => e = .returned (.bool (nameOk s)) ∧ w = w' := by
  go_enter Tryd.func64, Tryd.ntmps64
  go_wp2
  go_loop [3] (fun i => ∃ k : Nat, k ≤ s.size ∧ i = .int .i64 k ∧ (s.data.toList.take k).all lowerB = true) (fun i => s.size - (intOf i).toNat)
  case atStart => exact ⟨0, Nat.zero_le _, rfl, rfl⟩
  case round =>
    obtain ⟨k, hk, rfl, hall⟩ := hrel
    by_cases hlt : k < s.size
    · have HA := Lib.hid hall
      have HT := Lib.hid (take_snocB s k hlt)
      have HN := Lib.hid (@name_no s k hlt)
      clear hall
      by_cases h97 : (s[k].toNat : Int) < 97
      · go_wp2
        go_ret
        exact ⟨ret_bool (HN.out (.inl h97)).symm, rfl⟩
      · by_cases h122 : (122 : Int) < (s[k].toNat : Int)
        · have hd1 : decide ((s[k].toNat : Int) < 97) = false := decide_eq_false h97
          go_wp2
          go_ret
          exact ⟨ret_bool (HN.out (.inr h122)).symm, rfl⟩
        · have hd1 : decide ((s[k].toNat : Int) < 97) = false := decide_eq_false h97
          have HL := Lib.hid (show lowerB s[k] = true by simp [lowerB]; omega)
          go_wp2
          go_round
          case rel => exact ⟨k + 1, by omega, by go_num, by rw [HT.out, List.all_append, HA.out]; simp [HL.out]⟩
          case measure => simp [intOf]; omega
    · have HA := Lib.hid hall
      clear hall
      have he : s.data.toList.take k = s.data.toList := List.take_of_length_le (by simp; omega)
      have hfin : nameOk s = (decide (0 < s.size) && decide (s.size ≤ 12)) := by
        have := HA.out
        rw [he] at this
        unfold nameOk
        rw [this, Bool.true_and]
        congr 1
        rw [decide_eq_decide]
        constructor
        · intro h
          refine Nat.pos_of_ne_zero fun e => h ?_
          have hl : s.data.toList.length = 0 := by rw [data_length]; exact e
          have h2 := List.length_eq_zero_iff.1 hl
          exact ba_ext (by rw [h2]; rfl)
        · intro h e
          rw [e] at h
          exact absurd h (by decide)
      have HF := Lib.hid hfin
      clear hfin he
      by_cases h0 : 0 < s.size
      · have hI : decide ((0 : Int) < (s.size : Int)) = true := decide_eq_true (by omega)
        go_wp2
        go_ret
        exact ⟨ret_bool (by rw [HF.out, decide_eq_true h0, Bool.true_and]; first | rfl | (rw [decide_eq_decide]; omega)), rfl⟩
      · have hI : decide ((0 : Int) < (s.size : Int)) = false := decide_eq_false (by omega)
        go_wp2
        go_ret
        exact ⟨ret_bool (by rw [HF.out, decide_eq_false h0, Bool.false_and]), rfl⟩
end Go.Proofs.YtmcafcgbbhcjhaaDoor
