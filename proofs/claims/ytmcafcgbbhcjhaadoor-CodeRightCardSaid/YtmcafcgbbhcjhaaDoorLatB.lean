/- lattice: join, meet. -/
import Derived.Test.YtmcafcgbbhcjhaaDoorLatA
import Derived.Test.YtmcafcgbbhcjhaaDoorQuiet
import Derived.RegionTactic
import Derived.StillTailTactics
import Derived.BigRegion
namespace Go.Proofs.YtmcafcgbbhcjhaaDoor
open Go.RowKit Go.Proofs.YtmcafcgbbhcjhaaDoorW.PrintWords

def joinI (L : Lat) (a b : Nat) : Int := idxOf (fun x => x == upAt L a &&& upAt L b) L.up

set_option maxRecDepth 100000 in
set_option maxHeartbeats 400000 in
theorem join_any {w : World} {An Au : Option Addr} {cn cu : Nat} {L : Lat} (hL : LatAt w An cn Au cu L) (a b : Int) (ha : 0 ≤ a) (ha' : a < L.up.length) (hb : 0 ≤ b) (hb' : b < L.up.length) :
    Calls Tryd.prog 60 #[.agg #[.slice An L.names.length cn, .slice Au L.up.length cu], .int .i64 a, .int .i64 b] w fun e w' => e = .returned (.int .i64 (joinI L a.toNat b.toNat)) ∧ Below w.heap.size w w' := by
  obtain ⟨ad, rfl, hc, hblk⟩ := hL.at_up (k := a.toNat) (by omega)
  obtain ⟨ad', e, hc2, hblk2⟩ := hL.at_up (k := b.toNat) (by omega)
  cases e
  have hlt := hL.upAt_lt a.toNat
  have hlt2 := hL.upAt_lt b.toNat
  have hm := hL.lenu
  have HL := Lib.hid hL
  clear hL
  go_enter Tryd.func60, Tryd.ntmps60
  go_wp2
  go_region
  have hand := u32_and _ _ hlt hlt2
  rw [hand]
  go_wp2_with fail
  generalize hS : ((w.alloc (.cells #[.slice An L.names.length cn, .slice (some ad) L.up.length cu] 25)).alloc (.cells #[.int .u32 (((upAt L a.toNat &&& upAt L b.toNat : Nat)) : Int)] 60)).drew = S at *
  have HS := Lib.hid hS
  clear hS
  have hB : Below w.heap.size w S := by rw [← HS.out]; exact below_drew (below_alloc (below_new _) _)
  have hx := Kd.C_below HL.out.up hB
  have hcell : ∀ W, Below S.heap.size S W → W.cell? ⟨w.heap.size + 1, 0, none⟩ = some (.int .u32 (((upAt L a.toNat &&& upAt L b.toNat : Nat)) : Int)) := by
    intro W hW
    rw [hW.cell (p := ⟨w.heap.size + 1, 0, none⟩) (by rw [← HS.out]; simp), ← HS.out]
    simp
  refine (indexFuncUp_any hx 92 (entersF Tryd.func92 (by kernel_rfl) rfl) _ (fun x => x == upAt L a.toNat &&& upAt L b.toNat) (fun x W _ hW => (joinIs_any _ x _ W (hcell W hW)).mono fun e w' ⟨he, hw⟩ => ⟨he, hw ▸ Below.refl _ _⟩)).mono ?_
  rintro e w' ⟨rfl, hb⟩
  go_wp2
  go_ret
  exact ⟨rfl, below_step hB hB.size hb⟩
def downN (L : Lat) (a : Nat) : Nat := downTo L a L.up.length
def meetI (L : Lat) (a b : Nat) : Int := idxOf (fun i => downN L i == downN L a &&& downN L b) (List.range L.up.length)
theorem downN_lt {L : Lat} (a : Nat) (h8 : L.up.length ≤ 8) : downN L a < 4294967296 := downTo_lt L a _ (by omega)

set_option maxRecDepth 100000 in
set_option maxHeartbeats 400000 in
theorem meet_any {w : World} {An Au : Option Addr} {cn cu : Nat} {L : Lat} (hL : LatAt w An cn Au cu L) (h8 : L.up.length ≤ 8) (a b : Int) (ha : 0 ≤ a) (hb : 0 ≤ b) :
    Calls Tryd.prog 61 #[.agg #[.slice An L.names.length cn, .slice Au L.up.length cu], .int .i64 a, .int .i64 b] w fun e w' => e = .returned (.int .i64 (meetI L a.toNat b.toNat)) ∧ Below w.heap.size w w' := by
  have hlt := downN_lt a.toNat h8
  have hlt2 := downN_lt b.toNat h8
  have HL := Lib.hid hL
  clear hL
  go_enter Tryd.func61, Tryd.ntmps61
  go_wp2
  have HB0 := Lib.hid (below_new (w := w) (.cells #[.slice An L.names.length cn, .slice Au L.up.length cu] 25))
  refine wp_region_later (by kernel_rfl) (by kernel_rfl) ?_
  repeat (quiet_step ((go_at_call 93; exact aft_call (down_any ((HL.out.alloc _).below (Aft.below _)) h8 _ (by omega)))))
  refine wpQuiet_nil ?_
  rintro _ ⟨i, rfl⟩
  have hand := u32_and _ _ hlt hlt2
  unfold downN at hand
  have hwi := i.below
  generalize i.w = wi at *
  have HWI := Lib.hid hwi
  clear hwi
  have hc0 : wi.cell? ⟨w.heap.size, 0, none⟩ = some (.slice An L.names.length cn) := by rw [HWI.out.cell (p := ⟨w.heap.size, 0, none⟩) (by simp)]; simp
  have hc1 : wi.cell? ⟨w.heap.size, 1, none⟩ = some (.slice Au L.up.length cu) := by rw [HWI.out.cell (p := ⟨w.heap.size, 1, none⟩) (by simp)]; simp
  rw [hand]
  clear hand
  go_wp2
  clear hc0 hc1
  go_loopw [19] (fun i wr => ∃ k : Nat, k ≤ L.up.length ∧ i = .int .i64 k ∧ ((List.range L.up.length).take k).all (fun i => !(downN L i == downN L a.toNat &&& downN L b.toNat)) = true ∧ Below (w.alloc (.cells #[.slice An L.names.length cn, .slice Au L.up.length cu] 25)).heap.size (w.alloc (.cells #[.slice An L.names.length cn, .slice Au L.up.length cu] 25)) wr) (fun i _ => L.up.length - (intOf i).toNat)
  case atStart => exact ⟨0, Nat.zero_le _, rfl, rfl, HWI.out⟩
  case round =>
    obtain ⟨k, hk, rfl, hall, hB⟩ := hrel
    have HA := Lib.hid hall
    have HB := Lib.hid hB
    clear hall hB
    have hBw := Lib.hid (HB0.out.trans (below_le HB.out (by simp)))
    have hc0 : wr.cell? ⟨w.heap.size, 0, none⟩ = some (.slice An L.names.length cn) := by rw [HB.out.cell (p := ⟨w.heap.size, 0, none⟩) (by simp)]; simp
    have hc1 : wr.cell? ⟨w.heap.size, 1, none⟩ = some (.slice Au L.up.length cu) := by rw [HB.out.cell (p := ⟨w.heap.size, 1, none⟩) (by simp)]; simp
    by_cases hlt3 : k < L.up.length
    · have hR := Lib.hid (show nth 0 (List.range L.up.length) k = k by rw [nth_get 0 (by simpa using hlt3)]; simp)
      have HT := Lib.hid (take_nth 0 (xs := List.range L.up.length) (k := k) (by simpa using hlt3))
      cases hpx : (downN L k == downN L a.toNat &&& downN L b.toNat) with
      | true =>
        have HQ := Lib.hid hpx
        have hq : ((((downTo L k L.up.length : Nat) : Int)) == (((downTo L a.toNat L.up.length &&& downTo L b.toNat L.up.length : Nat)) : Int)) = true := by
          have := HQ.out
          simp only [downN, beq_iff_eq] at this
          rw [this]; simp
        clear hpx
        go_wp2_with (go_at_call 93; refine (down_any (HL.out.below hBw.out) h8 _ (by omega)).mono ?_; rintro e w' ⟨rfl, hb⟩; rw [Int.toNat_natCast])
        go_ret
        exact ⟨ret_int (idxOf_at _ _ k 0 (by simpa using hlt3) HA.out (by rw [hR.out]; exact HQ.out)).symm, below_step hBw.out hBw.out.size hb⟩
      | false =>
        have HQ := Lib.hid hpx
        have hq : ((((downTo L k L.up.length : Nat) : Int)) == (((downTo L a.toNat L.up.length &&& downTo L b.toNat L.up.length : Nat)) : Int)) = false := by
          have := HQ.out
          simp only [downN, beq_eq_false_iff_ne, ne_eq] at this ⊢
          omega
        clear hpx
        go_wp2_with (go_at_call 93; refine (down_any (HL.out.below hBw.out) h8 _ (by omega)).mono ?_; rintro e w' ⟨rfl, hb⟩; rw [Int.toNat_natCast])
        go_roundw
        case rel => exact ⟨k + 1, by omega, by go_num, by rw [HT.out, List.all_append, HA.out]; simp [hR.out, HQ.out], below_step HB.out HB.out.size hb⟩
        case measure => simp [intOf]; omega
    · have : k = L.up.length := by omega
      subst this
      have he : (List.range L.up.length).take L.up.length = List.range L.up.length := List.take_of_length_le (by simp)
      rw [he] at HA
      clear he
      go_wp2
      go_ret
      exact ⟨ret_int (idxOf_none _ _ HA.out).symm, hBw.out⟩
end Go.Proofs.YtmcafcgbbhcjhaaDoor
