/- reticentref08: Same. -/
import Derived.Test.YtmcafcgbbhcjhaaDoorCodE
namespace Go.Proofs.YtmcafcgbbhcjhaaDoor
open Go.RowKit Go.Shelf Go.Proofs.YtmcafcgbbhcjhaaDoorW.PrintWords
attribute [local go_sem] Oper.semAt_some
set_option maxRecDepth 100000 in
set_option maxHeartbeats 400000 in
theorem same_any {w : World} {A B : Option Addr} {c c' : Nat} {xs ys : List Instr} (hx : kInstr.C w A xs.length xs) (hy : kInstr.C w B ys.length ys) :
    Calls Tryd.prog 11 #[.slice A xs.length c, .slice B ys.length c'] w fun e w' => e = .returned (.bool (decide (xs = ys))) ∧ Below w.heap.size w w' := by
  have hm := hx.2.1
  have hm' := hy.2.1
  have hg : Tryd.prog.eqGuardType Tryd.prog.depth 51 = false := by kernel_rfl
  have HX := Lib.hid hx
  have HY := Lib.hid hy
  clear hx hy
  by_cases hl : xs.length = ys.length
  · have HLen := Lib.hid hl
    have hq : ((xs.length : Int) != (ys.length : Int)) = false := by rw [bne_eq_false_iff_eq]; omega
    have hl1 : xs.length ≤ ys.length := by omega
    have hl2 : ys.length ≤ xs.length := by omega
    clear hl
    go_enter Tryd.func11, Tryd.ntmps11
    go_wp2
    go_loopw [13] (fun i wr => ∃ k : Nat, k ≤ xs.length ∧ i = .int .i64 k ∧ xs.take k = ys.take k ∧ Below w.heap.size w wr) (fun i _ => xs.length - (intOf i).toNat)
    case atStart => exact ⟨0, Nat.zero_le _, rfl, rfl, Below.refl _ _⟩
    case round =>
      obtain ⟨k, hk, rfl, hall, hB⟩ := hrel
      have HA := Lib.hid hall
      clear hall
      by_cases hlt : k < xs.length
      · obtain ⟨ad, rfl, hc0, hc1, hc2, hblk⟩ := at_instr (Kd.C_below HX.out hB) hlt
        obtain ⟨ad', rfl, hd0, hd1, hd2, hblk'⟩ := at_instr (Kd.C_below HY.out hB) (k := k) (by omega)
        have hlt2 : k < ys.length := by omega
        have HT := Lib.hid (take_nth zInstr hlt)
        have HT' := Lib.hid (take_nth zInstr (xs := ys) (k := k) (by omega))
        by_cases he : nth zInstr xs k = nth zInstr ys k
        · have HE := Lib.hid he
          have hq2 : ∀ W : World, (Op.equalIn 10000 51 (.agg #[.int .i64 (nth zInstr xs k).op, .int .i64 (nth zInstr xs k).n, .int .i64 (nth zInstr xs k).l]) (.agg #[.int .i64 (nth zInstr ys k).op, .int .i64 (nth zInstr ys k).n, .int .i64 (nth zInstr ys k).l])).run Tryd.prog W = .ok true W := fun W => by rw [eqInstr, decide_eq_true HE.out]
          clear he
          go_wp2_with fail
          refine wp_region_later (by kernel_rfl) (by kernel_rfl) ?_
          repeat (first | go_big_quiet_skip | quiet_step (fail))
          refine wpQuiet_nil ?_
          rintro _ ⟨i, rfl⟩
          have HBi := Lib.hid (below_step hB hB.size i.below)
          generalize i.w = wi at *
          go_wp2
          go_roundw
          case rel => exact ⟨k + 1, by omega, by go_num, by rw [HT.out, HT'.out, HA.out, HE.out], HBi.out⟩
          case measure => simp [intOf]; omega
        · have HE := Lib.hid he
          have hq2 : ∀ W : World, (Op.equalIn 10000 51 (.agg #[.int .i64 (nth zInstr xs k).op, .int .i64 (nth zInstr xs k).n, .int .i64 (nth zInstr xs k).l]) (.agg #[.int .i64 (nth zInstr ys k).op, .int .i64 (nth zInstr ys k).n, .int .i64 (nth zInstr ys k).l])).run Tryd.prog W = .ok false W := fun W => by rw [eqInstr, decide_eq_false HE.out]
          clear he
          go_wp2_with fail
          refine wp_region_later (by kernel_rfl) (by kernel_rfl) ?_
          repeat (first | go_big_quiet_skip | quiet_step (fail))
          refine wpQuiet_nil ?_
          rintro _ ⟨i, rfl⟩
          have HBi := Lib.hid (below_step hB hB.size i.below)
          generalize i.w = wi at *
          go_wp2
          go_ret
          exact ⟨ret_bool (same_cut zInstr HLen.out hlt HE.out).symm, HBi.out⟩
      · have : k = xs.length := by omega
        subst this
        have he : xs = ys := by have := HA.out; rwa [List.take_length, List.take_of_length_le hl2] at this
        have HE := Lib.hid he
        clear he
        go_wp2
        go_ret
        exact ⟨ret_bool (decide_eq_true HE.out).symm, hB⟩
  · have hq : ((xs.length : Int) != (ys.length : Int)) = true := by rw [bne_iff_ne]; omega
    have HF := Lib.hid (show decide (xs = ys) = false from decide_eq_false fun e => hl (by rw [e]))
    clear hl
    go_enter Tryd.func11, Tryd.ntmps11
    go_wp2
    go_ret
    exact ⟨ret_bool HF.out.symm, Below.refl _ _⟩
end Go.Proofs.YtmcafcgbbhcjhaaDoor
