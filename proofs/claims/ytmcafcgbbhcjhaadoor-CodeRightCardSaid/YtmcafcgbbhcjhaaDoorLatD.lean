/- lattice: all pairs, by a function that is ranged over. -/
import Derived.Test.YtmcafcgbbhcjhaaDoorLatB
import Derived.Test.YtmcafcgbbhcjhaaDoorLatC
import Derived.RangeFuncOne
namespace Go.Proofs.YtmcafcgbbhcjhaaDoor
open Go.RowKit Go.Shelf Go.Proofs.YtmcafcgbbhcjhaaDoorW.PrintWords
attribute [local go_sem] Oper.semAt_some

/-- The pairs before (a, b), in order. -/
def prs (n a b : Nat) : List (Nat × Nat) := (List.range a).flatMap (fun x => (List.range n).map fun y => (x, y)) ++ (List.range b).map fun y => (a, y)
theorem prs_snoc (n a b : Nat) : prs n a b ++ [(a, b)] = prs n a (b + 1) := by
  simp [prs, List.range_succ]
theorem prs_row (n a : Nat) : prs n a n = prs n (a + 1) 0 := by
  simp [prs, List.range_succ]
theorem prs_length (n a b : Nat) : (prs n a b).length = a * n + b := by
  have : ∀ a, ((List.range a).flatMap (fun x => (List.range n).map fun y => (x, y))).length = a * n := by
    intro a
    induction a with
    | zero => simp
    | succ a ih => rw [List.range_succ, List.flatMap_append, List.length_append, ih]; simp [Nat.add_mul]
  rw [prs, List.length_append, this]; simp
theorem prs_mem {n a b : Nat} (ha : a ≤ n) (hb : a < n → b ≤ n) (hb0 : a = n → b = 0) {x : Nat × Nat} (h : x ∈ prs n a b) : x.1 < n ∧ x.2 < n := by
  simp only [prs, List.mem_append, List.mem_flatMap, List.mem_range, List.mem_map] at h
  rcases h with ⟨y, hy, z, hz, rfl⟩ | ⟨z, hz, rfl⟩
  · exact ⟨by simp; omega, hz⟩
  · by_cases e : a = n
    · have := hb0 e; omega
    · exact ⟨by simp; omega, by have := hb (by omega); simp; omega⟩

theorem prs_all {n a b : Nat} (ha : a < n) (hb : b < n) : (a, b) ∈ prs n n 0 := by
  simp only [prs, List.mem_append, List.mem_flatMap, List.mem_range, List.mem_map]
  exact .inl ⟨a, ha, b, hb, rfl⟩
/-- Two labels of n. -/
abbrev Pair (n : Nat) : Type := Fin n × Fin n
def Pair.v {n : Nat} (x : Pair n) : Nat × Nat := (x.1.val, x.2.val)
theorem map_snoc {n a b : Nat} {ys : List (Pair n)} (h : ys.map Pair.v = prs n a b) (ha : a < n) (hb : b < n) : (ys ++ [((⟨a, ha⟩, ⟨b, hb⟩) : Pair n)]).map Pair.v = prs n a (b + 1) := by
  rw [List.map_append, h, ← prs_snoc]; rfl

set_option maxHeartbeats 400000 in
theorem pairs_any (n : Int) (w : World) :
    Calls Tryd.prog 59 #[.int .i64 n] w fun e w' => e = .returned (.func (.func 90) #[] #[.pointer (some ⟨w.heap.size, 0, none⟩)]) ∧ w.alloc (.cells #[.int .i64 n] 3) = w' := by
  go_enter Tryd.func59, Tryd.ntmps59
  go_wp2
  go_ret
  exact ⟨rfl, rfl⟩

theorem sq_lt {n a b : Nat} (ha : a < n) (hb : b < n) : a * n + b < n * n := by
  have h1 : (a + 1) * n ≤ n * n := Nat.mul_le_mul_right n ha
  rw [Nat.add_mul] at h1
  omega

set_option maxRecDepth 100000 in
set_option maxHeartbeats 4000000 in
theorem pairs1_in (m : Nat) (hm : 1 ≤ m) (l n B n₀ : Nat) (hn : n ≤ 9223372036854775806) (hb : B < n₀) (J Jx : List (Pair n) → World → Prop)
    (hY : ∀ pre (x : Pair n) W, J pre W → pre.length < n * n → YieldAt Fence.wide (m - 1) Tryd.prog l #[.int .i64 ((x.1.val : Nat) : Int), .int .i64 ((x.2.val : Nat) : Int)] W fun e W' =>
      (e = .returned (.bool true) ∧ J (pre ++ [x]) W' ∧ Below n₀ W W') ∨ (e = .returned (.bool false) ∧ Jx (pre ++ [x]) W'))
    (W : World) (hBs : W.cell? ⟨B, 0, none⟩ = some (.int .i64 (n : Int))) (h0 : J [] W) :
    CallsIn Fence.wide m Tryd.prog 90 #[.func (.yield l) #[] #[], .pointer (some ⟨B, 0, none⟩)] W fun e W' => (∃ v, e = .returned v) ∧
      ((∃ ys : List (Pair n), ys.map Pair.v = prs n n 0 ∧ J ys W') ∨ (∃ pre, True ∧ Jx pre W')) := by
  have HY := Lib.hid hY
  clear hY
  refine callsIn_of_wp Tryd.func90 rfl trivial ?_ rfl
  simp only [Tryd.ntmps90, List.size_toArray, List.length_cons, List.length_nil, Nat.reduceAdd, Nat.reduceSub, Array.replicate_succ, Array.replicate_zero, List.push_toArray, List.append_toArray, List.nil_append, List.cons_append]
  gi_wp2
  gi_loopw [6] (fun i wr => ∃ (a : Nat) (ys : List (Pair n)), a ≤ n ∧ i = .int .i64 a ∧ ys.map Pair.v = prs n a 0 ∧ J ys wr ∧ Below n₀ W wr) (fun i _ => n - (intOf i).toNat)
  case atStart => exact ⟨0, [], Nat.zero_le _, rfl, rfl, h0, Below.refl _ _⟩
  case round =>
    obtain ⟨a, ys, ha, rfl, hys, hJ, hnx⟩ := hrel
    have HJ := Lib.hid hJ
    have HYS := Lib.hid hys
    clear hJ hys
    have hcx : wr.cell? ⟨B, 0, none⟩ = some (.int .i64 (n : Int)) := (hnx.cell (p := ⟨B, 0, none⟩) hb).trans hBs
    by_cases hlt : a < n
    · gi_wp2
      obtain ⟨wo, rfl⟩ : ∃ wo : World, wo = wr := ⟨_, rfl⟩
      gi_loopw [10] (fun i wr => ∃ (b : Nat) (zs : List (Pair n)), b ≤ n ∧ i = .int .i64 b ∧ zs.map Pair.v = prs n a b ∧ J zs wr ∧ Below n₀ W wr) (fun i _ => n - (intOf i).toNat)
      case atStart => exact ⟨0, ys, Nat.zero_le _, rfl, HYS.out, HJ.out, hnx⟩
      case round =>
        obtain ⟨b, zs, hb2, rfl, hzs, hJ2, hnx2⟩ := hrel
        have HZ := Lib.hid hzs
        clear hzs
        by_cases hlt2 : b < n
        · obtain ⟨fn, tmps, assign, body, hy, hR⟩ := HY.out zs (⟨a, hlt⟩, ⟨b, hlt2⟩) wr hJ2 (by rw [← List.length_map (f := Pair.v), HZ.out, prs_length]; exact sq_lt hlt hlt2)
          dsimp only at hy
          gi_wp2
          refine hR.mono ?_
          rintro e W3 (⟨rfl, hJ3, hk3⟩ | ⟨rfl, hJx3⟩)
          · have HJ3 := Lib.hid hJ3
            clear hJ3
            gi_wp2
            go_roundw
            case rel => exact ⟨b + 1, _, by omega, by go_num, map_snoc HZ.out hlt hlt2, HJ3.out, hnx2.trans hk3⟩
            case measure => simp [intOf]; omega
          · gi_wp2
            refine bodyPost_ret (results_none rfl _ _ _) rfl ?_
            exact ⟨⟨_, rfl⟩, .inr ⟨_, trivial, hJx3⟩⟩
        · obtain rfl : b = n := by omega
          gi_wp2
          go_roundw
          case rel => exact ⟨a + 1, zs, by omega, by go_num, by rw [← prs_row]; exact HZ.out, hJ2, hnx2⟩
          case measure => simp [intOf]; omega
    · obtain rfl : a = n := by omega
      gi_wp2
      go_end0
      exact ⟨⟨_, rfl⟩, .inl ⟨_, HYS.out, HJ.out⟩⟩
theorem pairs1_stops (m : Nat) (hm : 1 ≤ m) (n B n₀ : Nat) (hn : n ≤ 9223372036854775806) (w : World) (hb : B < n₀) (hw : n₀ ≤ w.heap.size) (hc : w.cell? ⟨B, 0, none⟩ = some (.int .i64 (n : Int))) :
    SeqStopsK Fence.wide m Tryd.prog 90 #[.pointer (some ⟨B, 0, none⟩)] (fun x : Pair n => #[Value.int .i64 ((x.1.val : Nat) : Int), .int .i64 ((x.2.val : Nat) : Int)]) (Below n₀) (fun ys => ys.map Pair.v = prs n n 0) (fun _ => True) (n * n) w := fun l J Jx W hW _ _ hY h0 => by
  have hc' := (hW.cell (p := ⟨B, 0, none⟩) (by show B < w.heap.size; omega)).trans hc
  exact pairs1_in m hm l n B n₀ hn hb J Jx hY W hc' h0
end Go.Proofs.YtmcafcgbbhcjhaaDoor
