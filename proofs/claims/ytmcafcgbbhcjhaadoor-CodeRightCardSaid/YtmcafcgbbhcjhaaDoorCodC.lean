/- slices: IndexFunc, ContainsFunc over instructions. -/
import Derived.Test.YtmcafcgbbhcjhaaDoorCodB
namespace Go.Proofs.YtmcafcgbbhcjhaaDoor
open Go.RowKit Go.Shelf Go.Proofs.YtmcafcgbbhcjhaaDoorW.PrintWords
attribute [local go_sem] Oper.semAt_some

theorem idxOf_any {α : Type} (p : α → Bool) (xs : List α) : decide (0 ≤ idxOf p xs) = xs.any p := by
  cases h : xs.any p with
  | true =>
    have hn : ¬ idxOf p xs < 0 := by
      rw [idxOf_neg, List.all_eq_true]
      rw [List.any_eq_true] at h
      obtain ⟨x, hx, hpx⟩ := h
      intro hall
      have := hall x hx
      rw [hpx] at this
      cases this
    exact decide_eq_true (by omega)
  | false =>
    have hn : idxOf p xs < 0 := by
      rw [idxOf_neg, List.all_eq_true]
      rw [List.any_eq_false] at h
      intro x hx
      simpa using h x hx
    exact decide_eq_false (by omega)
def encInstr (x : Instr) : Value := .agg #[.int .i64 x.op, .int .i64 x.n, .int .i64 x.l]
set_option maxRecDepth 100000 in
set_option maxHeartbeats 400000 in
theorem indexFuncInstr_any {w : World} {A : Option Addr} {c : Nat} {xs : List Instr} (hx : kInstr.C w A xs.length xs) (fn : FuncId) (hE : EntersF fn) (cap : Value) (p : Instr → Bool)
    (hp : ∀ (x : Instr) (W : World), x ∈ xs → Below w.heap.size w W → Calls Tryd.prog fn #[.agg #[.int .i64 x.op, .int .i64 x.n, .int .i64 x.l], cap] W fun e w' => e = .returned (.bool (p x)) ∧ Below W.heap.size W w') :
    Calls Tryd.prog 67 #[.slice A xs.length c, .func (.func fn) #[] #[cap]] w fun e w' => e = .returned (.int .i64 (idxOf p xs)) ∧ Below w.heap.size w w' := by
  have hm := hx.2.1
  have HX := Lib.hid hx
  have HP := Lib.hid hp
  clear hx hp
  go_enter Tryd.func67, Tryd.ntmps67
  go_wp2
  go_loopw [8] (fun i wr => ∃ k : Nat, k ≤ xs.length ∧ i = .int .i64 k ∧ (xs.take k).all (fun x => !p x) = true ∧ Below w.heap.size w wr) (fun i _ => xs.length - (intOf i).toNat)
  case atStart => exact ⟨0, Nat.zero_le _, rfl, rfl, Below.refl _ _⟩
  case round =>
    obtain ⟨k, hk, rfl, hall, hB⟩ := hrel
    have HA := Lib.hid hall
    clear hall
    by_cases hlt : k < xs.length
    · obtain ⟨ad, rfl, hc0, hc1, hc2, hblk⟩ := at_instr (Kd.C_below HX.out hB) hlt
      have hP := Lib.hid (HP.out _ wr (nth_mem zInstr hlt) hB)
      have HT := Lib.hid (take_nth zInstr hlt)
      have hE' := hE
      unfold EntersF at hE'
      cases hpx : p (nth zInstr xs k) with
      | true =>
        have HQ := Lib.hid hpx
        rw [hpx] at hP
        clear hpx
        go_wp2_with (refine hP.out.mono ?_; rintro e w' ⟨rfl, hb⟩)
        go_ret
        exact ⟨ret_int (idxOf_at p xs k zInstr hlt HA.out HQ.out).symm, below_step hB hB.size hb⟩
      | false =>
        have HQ := Lib.hid hpx
        rw [hpx] at hP
        clear hpx
        go_wp2_with (refine hP.out.mono ?_; rintro e w' ⟨rfl, hb⟩)
        go_roundw
        case rel => exact ⟨k + 1, by omega, by go_num, by rw [HT.out, List.all_append, HA.out]; simp [HQ.out], below_step hB hB.size hb⟩
        case measure => simp [intOf]; omega
    · have : k = xs.length := by omega
      subst this
      rw [List.take_length] at HA
      go_wp2
      go_ret
      exact ⟨ret_int (idxOf_none p xs HA.out).symm, hB⟩
theorem containsFuncInstr_any {w : World} {A : Option Addr} {c : Nat} {xs : List Instr} (hx : kInstr.C w A xs.length xs) (fn : FuncId) (hE : EntersF fn) (cap : Value) (p : Instr → Bool)
    (hp : ∀ (x : Instr) (W : World), x ∈ xs → Below w.heap.size w W → Calls Tryd.prog fn #[.agg #[.int .i64 x.op, .int .i64 x.n, .int .i64 x.l], cap] W fun e w' => e = .returned (.bool (p x)) ∧ Below W.heap.size W w') :
    Calls Tryd.prog 34 #[.slice A xs.length c, .func (.func fn) #[] #[cap]] w fun e w' => e = .returned (.bool (xs.any p)) ∧ Below w.heap.size w w' := by
  have HI := Lib.hid (indexFuncInstr_any (c := c) hx fn hE cap p hp)
  clear hx hp
  go_enter Tryd.func34, Tryd.ntmps34
  go_wp2_with (go_at_call 67; refine HI.out.mono ?_; rintro e w' ⟨rfl, hb⟩)
  go_ret
  exact ⟨ret_bool (idxOf_any p xs), hb⟩
end Go.Proofs.YtmcafcgbbhcjhaaDoor
