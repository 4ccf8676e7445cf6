/- code: number and right. -/
import Derived.Test.YtmcafcgbbhcjhaaDoorCodA
namespace Go.Proofs.YtmcafcgbbhcjhaaDoor
open Go.RowKit Go.Shelf Go.Proofs.YtmcafcgbbhcjhaaDoorW.PrintWords
attribute [local go_sem] Oper.semAt_some

theorem int_beq (a b : Int) : (a == b) = decide (a = b) := by
  by_cases h : a = b
  · simp [h]
  · simp [h]
/-- The least and the greatest number of an instruction that has one. -/
def spanOf (op : Int) : Option (Int × Int) := if op = 1 then some (-20, 20) else if op = 8 then some (0, 12) else if op = 9 then some (0, 3) else if op = 10 then some (0, 1) else none
theorem look_in {w : World} {b : Nat} (h : SpanAt w b) {op lo hi : Int} (hs : spanOf op = some (lo, hi)) :
    ∃ p, (Instr.lookup 106 (.map (some b)) (.int .i64 op) true).run Tryd.prog w = .ok (.tuple #[cloV p, .bool true]) w ∧ CloAt w p lo hi := by
  unfold spanOf at hs
  split at hs
  · cases hs; subst op
    exact ⟨_, run_lookup_there Tryd.underlying106 Tryd.underlying3 h.map rfl, h.c1⟩
  split at hs
  · cases hs; subst op
    exact ⟨_, run_lookup_there Tryd.underlying106 Tryd.underlying3 h.map rfl, h.c8⟩
  split at hs
  · cases hs; subst op
    exact ⟨_, run_lookup_there Tryd.underlying106 Tryd.underlying3 h.map rfl, h.c9⟩
  split at hs
  · cases hs; subst op
    exact ⟨_, run_lookup_there Tryd.underlying106 Tryd.underlying3 h.map rfl, h.c10⟩
  · cases hs
theorem look_out {w : World} {b : Nat} (h : SpanAt w b) {op : Int} (hs : spanOf op = none) :
    (Instr.lookup 106 (.map (some b)) (.int .i64 op) true).run Tryd.prog w = .ok (.tuple #[.nilFunc, .bool false]) w := by
  unfold spanOf at hs
  split at hs
  · cases hs
  split at hs
  · cases hs
  split at hs
  · cases hs
  split at hs
  · cases hs
  rename_i h1 h8 h9 h10
  refine run_lookup_none Tryd.underlying106 Tryd.underlying3 h.map ?_ (by kernel_rfl)
  simp [spanEs, Instr.findNow, Instr.sameNow, beq_eq_false_iff_ne.2 h1, beq_eq_false_iff_ne.2 h8, beq_eq_false_iff_ne.2 h9, beq_eq_false_iff_ne.2 h10]
theorem number_any (op : Int) (w : World) :
    Calls Tryd.prog 25 #[.int .i64 op] w fun e w' => e = .returned (.bool (spanOf op).isSome) ∧ Below w.heap.size w w' := by
  cases hs : spanOf op with
  | none =>
    have HS := Lib.hid hs
    clear hs
    go_enter Tryd.func25, Tryd.ntmps25
    go_wp2_with fail
    refine (spans_any _).mono ?_
    rintro e w1 ⟨rfl, hp, hb⟩
    have hl := look_out hp HS.out
    clear hp
    have HB := Lib.hid hb
    clear hb
    go_wp2
    go_ret
    exact ⟨rfl, HB.out⟩
  | some x =>
    obtain ⟨lo, hi⟩ := x
    have HS := Lib.hid hs
    clear hs
    go_enter Tryd.func25, Tryd.ntmps25
    go_wp2_with fail
    refine (spans_any _).mono ?_
    rintro e w1 ⟨rfl, hp, hb⟩
    obtain ⟨p, hl, -⟩ := look_in hp HS.out
    clear hp
    have HB := Lib.hid hb
    clear hb
    go_wp2
    go_ret
    exact ⟨rfl, HB.out⟩
/-- May an instruction be, of m labels? -/
def fitsB (x : Instr) : Bool := match spanOf x.op with | some (lo, hi) => decide (lo ≤ x.n) && decide (x.n ≤ hi) | none => decide (x.n = 0)
def instrOk (m : Int) (x : Instr) : Bool := decide (0 ≤ x.op) && decide (x.op < 13) && fitsB x && (if x.op = 1 then decide (0 ≤ x.l) && decide (x.l < m) else decide (x.l = 0))
set_option maxRecDepth 100000 in
set_option maxHeartbeats 1000000 in
theorem right_in {m : Int} {x : Instr} {lo hi : Int} {w : World} (h0 : 0 ≤ x.op) (h13 : x.op < 13) (hs : spanOf x.op = some (lo, hi)) {f : Bool} (hf : (decide (lo ≤ x.n) && decide (x.n ≤ hi)) = f) (hr : instrOk m x = (f && (if x.op = 1 then decide (0 ≤ x.l) && decide (x.l < m) else decide (x.l = 0)))) :
    Calls Tryd.prog 33 #[.int .i64 m, .agg #[.int .i64 x.op, .int .i64 x.n, .int .i64 x.l]] w fun e w' => e = .returned (.bool (instrOk m x)) ∧ Below w.heap.size w w' := by
  have HS := Lib.hid hs
  have HF := Lib.hid hf
  have HR := Lib.hid hr
  clear hs hf hr
  go_enter Tryd.func33, Tryd.ntmps33
  go_wp2_with fail
  go_region_held3 (fun w' => w'.cell? ⟨w.heap.size, 0, none⟩ = some (.int .i64 x.op) ∧ w'.cell? ⟨w.heap.size, 1, none⟩ = some (.int .i64 x.n) ∧ w'.cell? ⟨w.heap.size, 2, none⟩ = some (.int .i64 x.l)) (go_keep)
    (first | (go_at_call 62; refine (spans_any _).mono ?_; rintro e w1 ⟨rfl, hp, hb⟩; obtain ⟨p, hl0, hc⟩ := look_in hp HS.out; clear hp
              have hl : (Instr.lookup 106 (.map (some (w.heap.size + 1))) (.int .i64 x.op) true).run Tryd.prog w1 = .ok (.tuple #[cloV p, .bool true]) w1 := by rw [← hl0]; simp
              clear hl0
              unfold cloV at hl
              have hq0 := (hb.cell (p := ⟨w.heap.size, 0, none⟩) (by simp)).trans (show _ = some (.int .i64 x.op) by simp [go_sem])
              have hq1 := (hb.cell (p := ⟨w.heap.size, 1, none⟩) (by simp)).trans (show _ = some (.int .i64 x.n) by simp [go_sem])
              have hq2 := (hb.cell (p := ⟨w.heap.size, 2, none⟩) (by simp)).trans (show _ = some (.int .i64 x.l) by simp [go_sem])
              have HC := Lib.hid hc; clear hc
              have HB := Lib.hid hb; clear hb))
  go_wp2_with fail
  refine (in_any HC.out _).mono ?_
  rintro e w2 ⟨rfl, rfl⟩
  rw [HF.out]
  have HB' : Hid (Below w.heap.size w w1) := Lib.hid (((below_new _).drew).trans (below_le HB.out (by simp)))
  cases f with
  | false =>
    go_wp2
    go_ret
    exact ⟨ret_bool (by rw [HR.out]; rfl), HB'.out⟩
  | true =>
    by_cases h1 : x.op = 1
    · by_cases hl0 : 0 ≤ x.l
      · go_wp2
        go_ret
        exact ⟨ret_bool (by rw [HR.out]; simp [h1, hl0]), HB'.out⟩
      · go_wp2
        go_ret
        exact ⟨ret_bool (by rw [HR.out]; simp [h1, Int.not_le.2 hl0]), HB'.out⟩
    · go_wp2
      go_ret
      exact ⟨ret_bool (by rw [HR.out]; simp [h1, int_beq]), HB'.out⟩
set_option maxRecDepth 100000 in
set_option maxHeartbeats 1000000 in
theorem right_out {m : Int} {x : Instr} {w : World} (h0 : 0 ≤ x.op) (h13 : x.op < 13) (hs : spanOf x.op = none) {f : Bool} (hf : decide (x.n = 0) = f) (hr : instrOk m x = (f && (if x.op = 1 then decide (0 ≤ x.l) && decide (x.l < m) else decide (x.l = 0)))) :
    Calls Tryd.prog 33 #[.int .i64 m, .agg #[.int .i64 x.op, .int .i64 x.n, .int .i64 x.l]] w fun e w' => e = .returned (.bool (instrOk m x)) ∧ Below w.heap.size w w' := by
  have HS := Lib.hid hs
  have HF := Lib.hid hf
  have HR := Lib.hid hr
  clear hs hf hr
  go_enter Tryd.func33, Tryd.ntmps33
  go_wp2_with fail
  go_region_held3 (fun w' => w'.cell? ⟨w.heap.size, 0, none⟩ = some (.int .i64 x.op) ∧ w'.cell? ⟨w.heap.size, 1, none⟩ = some (.int .i64 x.n) ∧ w'.cell? ⟨w.heap.size, 2, none⟩ = some (.int .i64 x.l)) (go_keep)
    (first | (go_at_call 62; refine (spans_any _).mono ?_; rintro e w1 ⟨rfl, hp, hb⟩; have hl0 := look_out hp HS.out; clear hp
              have hl : (Instr.lookup 106 (.map (some (w.heap.size + 1))) (.int .i64 x.op) true).run Tryd.prog w1 = .ok (.tuple #[.nilFunc, .bool false]) w1 := by rw [← hl0]; simp
              clear hl0
              have hq0 := (hb.cell (p := ⟨w.heap.size, 0, none⟩) (by simp)).trans (show _ = some (.int .i64 x.op) by simp [go_sem])
              have hq1 := (hb.cell (p := ⟨w.heap.size, 1, none⟩) (by simp)).trans (show _ = some (.int .i64 x.n) by simp [go_sem])
              have hq2 := (hb.cell (p := ⟨w.heap.size, 2, none⟩) (by simp)).trans (show _ = some (.int .i64 x.l) by simp [go_sem])
              have HB := Lib.hid hb; clear hb))
  have HB' : Hid (Below w.heap.size w w1) := Lib.hid (((below_new _).drew).trans (below_le HB.out (by simp)))
  cases f with
  | false =>
    have hn : x.n ≠ 0 := by simpa using HF.out
    go_wp2
    go_ret
    exact ⟨ret_bool (by rw [HR.out]; rfl), HB'.out⟩
  | true =>
    have hn : x.n = 0 := by simpa using HF.out
    by_cases h1 : x.op = 1
    · by_cases hl0 : 0 ≤ x.l
      · go_wp2
        go_ret
        exact ⟨ret_bool (by rw [HR.out]; simp [h1, hl0]), HB'.out⟩
      · go_wp2
        go_ret
        exact ⟨ret_bool (by rw [HR.out]; simp [h1, Int.not_le.2 hl0]), HB'.out⟩
    · go_wp2
      go_ret
      exact ⟨ret_bool (by rw [HR.out]; simp [h1, int_beq]), HB'.out⟩
set_option maxRecDepth 100000 in
theorem right_any (m : Int) (x : Instr) (w : World) :
    Calls Tryd.prog 33 #[.int .i64 m, .agg #[.int .i64 x.op, .int .i64 x.n, .int .i64 x.l]] w fun e w' => e = .returned (.bool (instrOk m x)) ∧ Below w.heap.size w w' := by
  by_cases h0 : 0 ≤ x.op
  · by_cases h13 : x.op < 13
    · cases hs : spanOf x.op with
      | none => exact right_out h0 h13 hs rfl (by simp [instrOk, fitsB, hs, h0, h13])
      | some y => exact right_in (lo := y.1) (hi := y.2) h0 h13 hs rfl (by simp [instrOk, fitsB, hs, h0, h13])
    · have HR := Lib.hid (show instrOk m x = false by simp [instrOk, h13])
      have HB := Lib.hid (below_new (w := w) (.cells #[.int .i64 x.op, .int .i64 x.n, .int .i64 x.l] 51))
      go_enter Tryd.func33, Tryd.ntmps33
      go_wp2
      go_ret
      exact ⟨ret_bool HR.out.symm, HB.out⟩
  · have HR := Lib.hid (show instrOk m x = false by simp [instrOk, h0])
    have HB := Lib.hid (below_new (w := w) (.cells #[.int .i64 x.op, .int .i64 x.n, .int .i64 x.l] 51))
    go_enter Tryd.func33, Tryd.ntmps33
    go_wp2
    go_ret
    exact ⟨ret_bool HR.out.symm, HB.out⟩
end Go.Proofs.YtmcafcgbbhcjhaaDoor
