/- lattice: names, who flows where. -/
import Derived.Test.YtmcafcgbbhcjhaaDoorBase
namespace Go.Proofs.YtmcafcgbbhcjhaaDoor
open Go.RowKit Go.Proofs.YtmcafcgbbhcjhaaDoorW.PrintWords

def flowsB (L : Lat) (a b : Nat) : Bool := (upAt L a).testBit b

set_option maxHeartbeats 400000 in
theorem flows_any {w : World} {An Au : Option Addr} {cn cu : Nat} {L : Lat} (hL : LatAt w An cn Au cu L) (a b : Int) (ha : 0 ≤ a) (ha' : a < L.up.length) (hb : 0 ≤ b) :
    Calls Tryd.prog 89 #[.agg #[.slice An L.names.length cn, .slice Au L.up.length cu], .int .i64 a, .int .i64 b] w fun e w' => e = .returned (.bool (flowsB L a.toNat b.toNat)) ∧ Below w.heap.size w w' := by
  obtain ⟨ad, rfl, hc, hblk⟩ := hL.at_up (k := a.toNat) (by omega)
  have hlt := hL.upAt_lt a.toNat
  have hm := hL.lenu
  go_enter Tryd.func89, Tryd.ntmps89
  go_wp2
  go_ret
  exact ⟨ret_bool (bit_at _ _ hlt), below_new _⟩

set_option maxHeartbeats 400000 in
theorem joinIs_any (B : Nat) (x y : Nat) (w : World) (hc : w.cell? ⟨B, 0, none⟩ = some (.int .u32 (y : Int))) :
    Calls Tryd.prog 92 #[.int .u32 (x : Int), .pointer (some ⟨B, 0, none⟩)] w fun e w' => e = .returned (.bool (x == y)) ∧ w = w' := by
  go_enter Tryd.func92, Tryd.ntmps92
  go_wp2
  go_ret
  exact ⟨ret_bool (by rw [Bool.eq_iff_iff]; simp; omega), rfl⟩

theorem shl_small (b : Bool) (k : Nat) (hk : k < 32) : (b.toNat : Int) * 2 ^ k % 4294967296 = ((b.toNat <<< k : Nat) : Int) := by
  have h2 : (2 : Nat) ^ k ≤ 2 ^ 31 := Nat.pow_le_pow_right (by omega) (by omega)
  have h3 : ((2 ^ k : Nat) : Int) = (2 : Int) ^ k := Int.natCast_pow 2 k
  cases b
  · simp
  · simp only [Bool.toNat_true, Nat.one_shiftLeft]
    rw [← h3]
    have : ((1 : Nat) : Int) * ((2 ^ k : Nat) : Int) = ((2 ^ k : Nat) : Int) := by simp
    rw [this]
    generalize 2 ^ k = m at *
    omega
theorem shl_lt (b : Bool) (k : Nat) (hk : k < 32) : b.toNat <<< k < 4294967296 := by
  have h2 : (2 : Nat) ^ k ≤ 2 ^ 31 := Nat.pow_le_pow_right (by omega) (by omega)
  cases b
  · simp
  · simp only [Bool.toNat_true, Nat.one_shiftLeft]
    omega
def downTo (L : Lat) (a : Nat) : Nat → Nat
  | 0 => 0
  | k + 1 => downTo L a k ||| ((flowsB L k a).toNat <<< k)
theorem downTo_lt (L : Lat) (a k : Nat) (hk : k ≤ 32) : downTo L a k < 4294967296 := by
  induction k with
  | zero => simp [downTo]
  | succ k ih =>
    have h1 := ih (by omega)
    have h2 := shl_lt (flowsB L k a) k (by omega)
    exact Nat.or_lt_two_pow (n := 32) h1 h2
theorem downTo_bit (L : Lat) (a k i : Nat) : (downTo L a k).testBit i = (decide (i < k) && flowsB L i a) := by
  induction k with
  | zero => simp [downTo]
  | succ k ih =>
    rw [downTo, Nat.testBit_or, ih, Nat.testBit_shiftLeft]
    have hb : ∀ b : Bool, ∀ j, b.toNat.testBit j = (b && decide (j = 0)) := by
      intro b j
      cases b
      · simp
      · cases j with
        | zero => simp
        | succ j => simp [Nat.testBit_succ]
    rw [hb]
    rcases Nat.lt_trichotomy i k with h | h | h
    · simp [h, Nat.not_le.2 h, show i < k + 1 by omega]
    · subst h; simp
    · simp [show ¬ i < k by omega, show ¬ i < k + 1 by omega]
      intro h1 h2; omega
set_option maxHeartbeats 400000 in
theorem down_any {w : World} {An Au : Option Addr} {cn cu : Nat} {L : Lat} (hL : LatAt w An cn Au cu L) (h8 : L.up.length ≤ 8) (a : Int) (ha : 0 ≤ a) :
    Calls Tryd.prog 93 #[.agg #[.slice An L.names.length cn, .slice Au L.up.length cu], .int .i64 a] w fun e w' => e = .returned (.int .u32 ((downTo L a.toNat L.up.length : Nat) : Int)) ∧ Below w.heap.size w w' := by
  go_enter Tryd.func93, Tryd.ntmps93
  go_wp2
  go_loop [5, 10] (fun o i => ∃ k : Nat, k ≤ L.up.length ∧ i = .int .i64 k ∧ o = .int .u32 ((downTo L a.toNat k : Nat) : Int)) (fun _ i => L.up.length - (intOf i).toNat)
  case atStart => exact ⟨0, Nat.zero_le _, rfl, rfl⟩
  case round =>
    obtain ⟨k, hk, rfl, rfl⟩ := hrel
    by_cases hlt : k < L.up.length
    · obtain ⟨ad, rfl, hc, hblk⟩ := hL.at_up (k := k) (by omega)
      have hd := downTo_lt L a.toNat k (by omega)
      have hu := hL.upAt_lt k
      go_wp2
      go_round
      case rel => exact ⟨k + 1, by omega, by go_num, by rw [bit_and _ _ hu, shl_small _ _ (by omega), u32_or _ _ hd (shl_lt _ _ (by omega))]; rfl⟩
      case measure => simp [intOf]; omega
    · have : k = L.up.length := by omega
      subst this
      go_wp2
      go_ret
      exact ⟨rfl, below_new _⟩
/-- The first place at which something is so. -/
def idxOf {α : Type} (p : α → Bool) : List α → Int
  | [] => -1
  | x :: xs => if p x then 0 else (if idxOf p xs < 0 then -1 else idxOf p xs + 1)
theorem idxOf_neg {α : Type} (p : α → Bool) (xs : List α) : idxOf p xs < 0 ↔ xs.all (fun x => !p x) = true := by
  induction xs with
  | nil => simp [idxOf]
  | cons x xs ih =>
    cases hx : p x with
    | true => simp [idxOf, hx]
    | false =>
      rw [List.all_cons, hx]
      simp only [idxOf, hx, Bool.not_false, Bool.true_and]
      rw [← ih]
      split <;> rename_i h
      · simp at h
      · split <;> rename_i h2
        · exact ⟨fun _ => h2, fun _ => by omega⟩
        · exact ⟨fun h3 => by omega, fun h3 => absurd h3 h2⟩
theorem idxOf_at {α : Type} (p : α → Bool) (xs : List α) (k : Nat) (z : α) (hk : k < xs.length) (h0 : (xs.take k).all (fun x => !p x) = true) (h1 : p (nth z xs k) = true) : idxOf p xs = k := by
  induction xs generalizing k with
  | nil => simp at hk
  | cons x xs ih =>
    cases k with
    | zero => have h1 : p x = true := by simpa [nth] using h1
              simp [idxOf, h1]
    | succ k =>
      simp only [List.take_succ_cons, List.all_cons, Bool.and_eq_true] at h0
      have hx : p x = false := by simpa using h0.1
      have := ih k (by simpa using hk) h0.2 (by simpa [nth] using h1)
      simp only [idxOf, hx, this]
      simp
      omega
theorem idxOf_none {α : Type} (p : α → Bool) (xs : List α) (h : xs.all (fun x => !p x) = true) : idxOf p xs = -1 := by
  induction xs with
  | nil => rfl
  | cons x xs ih =>
    simp only [List.all_cons, Bool.and_eq_true] at h
    have hx : p x = false := by simpa using h.1
    simp [idxOf, hx, ih h.2]

set_option maxRecDepth 100000 in
set_option maxHeartbeats 400000 in
theorem indexFuncUp_any {w : World} {A : Option Addr} {c : Nat} {xs : List Nat} (hx : kUp.C w A xs.length xs) (fn : FuncId) (hE : EntersF fn) (cap : Value) (p : Nat → Bool)
    (hp : ∀ (x : Nat) (W : World), x ∈ xs → Below w.heap.size w W → Calls Tryd.prog fn #[.int .u32 (x : Int), cap] W fun e w' => e = .returned (.bool (p x)) ∧ Below W.heap.size W w') :
    Calls Tryd.prog 91 #[.slice A xs.length c, .func (.func fn) #[] #[cap]] w fun e w' => e = .returned (.int .i64 (idxOf p xs)) ∧ Below w.heap.size w w' := by
  have hm := hx.2.1
  have HX := Lib.hid hx
  have HP := Lib.hid hp
  clear hx hp
  go_enter Tryd.func91, Tryd.ntmps91
  go_wp2
  go_loopw [8] (fun i wr => ∃ k : Nat, k ≤ xs.length ∧ i = .int .i64 k ∧ (xs.take k).all (fun x => !p x) = true ∧ Below w.heap.size w wr) (fun i _ => xs.length - (intOf i).toNat)
  case atStart => exact ⟨0, Nat.zero_le _, rfl, rfl, Below.refl _ _⟩
  case round =>
    obtain ⟨k, hk, rfl, hall, hB⟩ := hrel
    have HA := Lib.hid hall
    clear hall
    by_cases hlt : k < xs.length
    · obtain ⟨ad, rfl, hc, hblk⟩ := at_up (Kd.C_below HX.out hB) hlt
      have hP := Lib.hid (HP.out _ wr (nth_mem 0 hlt) hB)
      have HT := Lib.hid (take_nth 0 hlt)
      have hE' := hE
      unfold EntersF at hE'
      cases hpx : p (nth 0 xs k) with
      | true =>
        have HQ := Lib.hid hpx
        rw [hpx] at hP
        clear hpx
        go_wp2_with (refine hP.out.mono ?_; rintro e w' ⟨rfl, hb⟩)
        go_ret
        exact ⟨ret_int (idxOf_at p xs k 0 hlt HA.out HQ.out).symm, below_step hB hB.size hb⟩
      | false =>
        have HQ := Lib.hid hpx
        rw [hpx] at hP
        clear hpx
        go_wp2_with (refine hP.out.mono ?_; rintro e w' ⟨rfl, hb⟩)
        go_roundw
        case rel => exact ⟨k + 1, by omega, by go_num, by rw [HT.out, List.all_append, HA.out]; simp [HQ.out], below_step hB hB.size hb⟩
        case measure => simp [intOf]; omega
    · have : k = xs.length := by omega
      subst this
      rw [List.take_length] at HA
      go_wp2
      go_ret
      exact ⟨ret_int (idxOf_none p xs HA.out).symm, hB⟩
end Go.Proofs.YtmcafcgbbhcjhaaDoor
