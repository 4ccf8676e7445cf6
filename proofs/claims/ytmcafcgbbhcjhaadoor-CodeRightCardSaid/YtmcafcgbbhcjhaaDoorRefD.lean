/- reticentref08: Right; reticentref06: Word. -/
import Derived.Test.YtmcafcgbbhcjhaaDoorRefC
import Derived.Test.YtmcafcgbbhcjhaaDoorCodP
namespace Go.Proofs.YtmcafcgbbhcjhaaDoor
open Go.RowKit Go.Shelf Go.Proofs.YtmcafcgbbhcjhaaDoorW.PrintWords
attribute [local go_sem] Oper.semAt_some

set_option maxRecDepth 100000 in
set_option maxHeartbeats 4000000 in
theorem rWord_any {op : Int} (h0 : 0 ≤ op) (h1 : op < 13) (w : World) :
    Calls Tryd.prog 37 #[.int .i64 op] w fun e w' => e = .returned (.string (wordAt op.toNat)) ∧ Below w.heap.size w w' := by
  have HB := Lib.hid (below_new (w := w) (.cells #[.string ⟨#[110, 111, 111, 112]⟩, .string ⟨#[112, 117, 115, 104]⟩, .string ⟨#[112, 111, 112]⟩, .string ⟨#[97, 100, 100]⟩, .string ⟨#[115, 117, 98]⟩, .string ⟨#[108, 111, 97, 100]⟩, .string ⟨#[115, 116, 111, 114, 101]⟩, .string ⟨#[106, 117, 109, 112]⟩, .string ⟨#[98, 110, 122]⟩, .string ⟨#[99, 97, 108, 108]⟩, .string ⟨#[114, 101, 116, 117, 114, 110]⟩, .string ⟨#[111, 117, 116, 112, 117, 116]⟩, .string ⟨#[104, 97, 108, 116]⟩] 9))
  have hop : op = 0 ∨ op = 1 ∨ op = 2 ∨ op = 3 ∨ op = 4 ∨ op = 5 ∨ op = 6 ∨ op = 7 ∨ op = 8 ∨ op = 9 ∨ op = 10 ∨ op = 11 ∨ op = 12 := by omega
  clear h0 h1
  rcases hop with e | e | e | e | e | e | e | e | e | e | e | e | e <;> subst e <;>
    (go_enter Tryd.func37, Tryd.ntmps37
     go_wp2
     go_ret
     exact ⟨rfl, HB.out⟩)
/-- What the reference says of a program: its instructions, and how many they are. -/
def rRightB (L : Lat) (code : List Instr) : Bool := code.all (instrOk L.up.length) && decide (code.length ≤ 12)
set_option maxRecDepth 100000 in
set_option maxHeartbeats 400000 in
theorem rRight_any {w : World} {An Au Ac : Option Addr} {cn cu cc : Nat} {L : Lat} {code : List Instr} (hL : LatAt w An cn Au cu L) (hc : kInstr.C w Ac code.length code) :
    Calls Tryd.prog 8 #[.agg #[.slice An L.names.length cn, .slice Au L.up.length cu], .slice Ac code.length cc] w fun e w' => e = .returned (.bool (rRightB L code)) ∧ Below w.heap.size w w' := by
  have hm := hc.2.1
  have hmu := hL.lenu
  have HC := Lib.hid hc
  generalize hWb : w.alloc (.cells #[.slice An L.names.length cn, .slice Au L.up.length cu] 25) = WB
  have HWB := Lib.hid hWb
  have HB0 := Lib.hid (show Below w.heap.size w WB by rw [← hWb]; exact below_new _)
  have hs0 : WB.heap.size = w.heap.size + 1 := by rw [← hWb]; simp
  have HS0 := Lib.hid hs0
  have HC1 := Lib.hid (show WB.cell? ⟨w.heap.size, 1, none⟩ = some (.slice Au L.up.length cu) by rw [← hWb]; simp [go_sem])
  have HCB := Lib.hid (Kd.C_below HC.out HB0.out)
  clear hL hc hWb hs0
  go_enter Tryd.func8, Tryd.ntmps8
  go_wp2
  rw [HWB.out]
  go_loopw [9] (fun i wr => ∃ k : Nat, k ≤ code.length ∧ i = .int .i64 k ∧ (code.take k).all (instrOk L.up.length) = true ∧ Below WB.heap.size WB wr) (fun i _ => code.length - (intOf i).toNat)
  case atStart => exact ⟨0, Nat.zero_le _, rfl, rfl, Below.refl _ _⟩
  case round =>
    obtain ⟨k, hk, rfl, hall, hB⟩ := hrel
    have HA := Lib.hid hall
    have HB := Lib.hid hB
    clear hall hB
    by_cases hlt : k < code.length
    · obtain ⟨ad, rfl, t0, t1, t2, hblk⟩ := at_instr (Kd.C_below HCB.out HB.out) hlt
      have HT := Lib.hid (take_nth zInstr hlt)
      have HMem := Lib.hid (nth_mem zInstr hlt)
      obtain ⟨x, hx⟩ : ∃ x, nth zInstr code k = x := ⟨_, rfl⟩
      rw [hx] at t0 t1 t2 HT HMem
      clear hx
      have yc := (HB.out.cell (p := ⟨w.heap.size, 1, none⟩) (by rw [HS0.out]; simp)).trans HC1.out
      have yl : w.heap.size < wr.heap.size := Nat.lt_of_lt_of_le (by rw [HS0.out]; omega) HB.out.size
      have HNew := Lib.hid (below_step HB.out HB.out.size (below_new (w := wr) (.cells #[.int .i64 x.op, .int .i64 x.n, .int .i64 x.l] 51)))
      go_wp2_with fail
      refine (rInstr_any L.up.length x _).mono ?_
      rintro e u1 ⟨rfl, hb1⟩
      have HBu := Lib.hid (below_step HNew.out HNew.out.size hb1)
      clear hb1
      cases hok : instrOk L.up.length x with
      | true =>
        have HOk := Lib.hid hok
        clear hok
        go_wp2
        go_roundw
        case rel => exact ⟨k + 1, by omega, by go_num, by rw [HT.out, List.all_append, HA.out]; simp [HOk.out], HBu.out⟩
        case measure => simp [intOf]; omega
      | false =>
        have HF := Lib.hid (show rRightB L code = false by
          have : code.all (instrOk L.up.length) = false := by rw [List.all_eq_false]; exact ⟨x, HMem.out, by simp [hok]⟩
          rw [rRightB, this]; rfl)
        clear hok
        go_wp2
        go_ret
        exact ⟨ret_bool HF.out.symm, below_le (HB0.out.trans (below_le HBu.out (by rw [HS0.out]; omega))) (Nat.le_refl _)⟩
    · have hke : k = code.length := by omega
      subst hke
      rw [List.take_length] at HA
      have HF := Lib.hid (show rRightB L code = decide (code.length ≤ 12) by rw [rRightB, HA.out]; simp)
      go_wp2
      go_ret
      exact ⟨ret_bool (by rw [HF.out]; first | rfl | (rw [decide_eq_decide]; omega)), below_le (HB0.out.trans (below_le HB.out (by rw [HS0.out]; omega))) (Nat.le_refl _)⟩
end Go.Proofs.YtmcafcgbbhcjhaaDoor
