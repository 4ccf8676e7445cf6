/- order.Find; code.Right. -/
import Derived.Test.YtmcafcgbbhcjhaaDoorCodC
namespace Go.Proofs.YtmcafcgbbhcjhaaDoor
open Go.RowKit Go.Shelf Go.Proofs.YtmcafcgbbhcjhaaDoorW.PrintWords
attribute [local go_sem] Oper.semAt_some

def findI (L : Lat) (s : ByteArray) : Int := idxOf (fun x => decide (s = x)) L.names
def findV (L : Lat) (s : ByteArray) : Int := if checkE L = 0 then (if findI L s < 0 then 0 else findI L s) else 0
def findE (L : Lat) (s : ByteArray) : Int := if checkE L = 0 then (if findI L s < 0 then 9 else 0) else checkE L
set_option maxRecDepth 100000 in
set_option maxHeartbeats 400000 in
theorem find_any {w : World} {An Au : Option Addr} {cn cu : Nat} {L : Lat} (hL : LatAt w An cn Au cu L) (s : ByteArray) :
    Calls Tryd.prog 138 #[.agg #[.slice An L.names.length cn, .slice Au L.up.length cu], .string s] w fun e w' => e = .returned (.tuple #[.int .i64 (findV L s), .int .i64 (findE L s)]) ∧ Below w.heap.size w w' := by
  have HL := Lib.hid hL
  clear hL
  generalize hWb : w.alloc (.cells #[.slice An L.names.length cn, .slice Au L.up.length cu] 25) = WB
  have HWB := Lib.hid hWb
  have HB0 := Lib.hid (show Below w.heap.size w WB by rw [← hWb]; exact below_new _)
  have hs0 : WB.heap.size = w.heap.size + 1 := by rw [← hWb]; simp
  have HS0 := Lib.hid hs0
  have HC0 := Lib.hid (show WB.cell? ⟨w.heap.size, 0, none⟩ = some (.slice An L.names.length cn) by rw [← hWb]; simp [go_sem])
  have HLB := Lib.hid (HL.out.below HB0.out)
  clear hWb hs0
  go_enter Tryd.func138, Tryd.ntmps138
  go_wp2_with fail
  rw [HWB.out]
  refine (check_any HLB.out).mono ?_
  rintro e w1 ⟨rfl, hb1⟩
  have HB1 := Lib.hid (below_step HB0.out HB0.out.size hb1)
  have HL1 := Lib.hid (HL.out.below HB1.out)
  have hc0 := (hb1.cell (p := ⟨w.heap.size, 0, none⟩) (by rw [HS0.out]; simp)).trans HC0.out
  clear hb1
  by_cases h1 : checkE L = 0
  · have H1 := Lib.hid h1
    have h1' : (checkE L != 0) = false := by simp [h1]
    have HIx := Lib.hid (indexStr_any (c := cn) HL1.out.names s)
    clear h1
    go_wp2_with fail
    refine HIx.out.mono ?_
    rintro e w2 ⟨rfl, rfl⟩
    by_cases h2 : findI L s < 0
    · have H2 := Lib.hid h2
      unfold findI at h2
      go_wp2
      go_ret2
      exact ⟨by simp [findV, findE, H1.out, H2.out], HB1.out⟩
    · have H2 := Lib.hid h2
      unfold findI at h2
      go_wp2
      go_ret2
      exact ⟨by rw [findV, findE, if_pos H1.out, if_pos H1.out, if_neg (Int.not_lt.2 H2.out), if_neg (Int.not_lt.2 H2.out)]; rfl, HB1.out⟩
  · have H1 := Lib.hid h1
    have h1' : (checkE L != 0) = true := by simpa using h1
    clear h1
    go_wp2
    go_ret2
    exact ⟨by simp [findV, findE, H1.out], HB1.out⟩

/-! ### Right -/
def rightB (L : Lat) (code : List Instr) : Bool := decide (checkE L = 0) && decide (code.length ≤ 12) && code.all (instrOk L.up.length)
set_option maxRecDepth 100000 in
theorem right1_any {B n : Nat} {Au : Option Addr} {cu : Nat} {W : World} (hc : W.cell? ⟨B, 1, none⟩ = some (.slice Au n cu)) (hB : B < W.heap.size) (x : Instr) :
    Calls Tryd.prog 32 #[.agg #[.int .i64 x.op, .int .i64 x.n, .int .i64 x.l], .pointer (some ⟨B, 0, none⟩)] W fun e w' => e = .returned (.bool (!instrOk n x)) ∧ Below W.heap.size W w' := by
  have HB := Lib.hid (below_new (w := W) (.cells #[.int .i64 x.op, .int .i64 x.n, .int .i64 x.l] 51))
  go_enter Tryd.func32, Tryd.ntmps32
  go_wp2_with fail
  refine (right_any n x _).mono ?_
  rintro e w1 ⟨rfl, hb⟩
  have HB1 := Lib.hid (below_step HB.out HB.out.size hb)
  clear hb
  go_wp2
  go_ret
  exact ⟨rfl, HB1.out⟩
set_option maxRecDepth 100000 in
set_option maxHeartbeats 400000 in
theorem Right_any {w : World} {An Au Ac : Option Addr} {cn cu cc : Nat} {L : Lat} {code : List Instr} (hL : LatAt w An cn Au cu L) (hc : kInstr.C w Ac code.length code) :
    Calls Tryd.prog 9 #[.agg #[.slice An L.names.length cn, .slice Au L.up.length cu], .slice Ac code.length cc] w fun e w' => e = .returned (.bool (rightB L code)) ∧ Below w.heap.size w w' := by
  have hm := hc.2.1
  have HL := Lib.hid hL
  have HC := Lib.hid hc
  clear hL hc
  generalize hWb : w.alloc (.cells #[.slice An L.names.length cn, .slice Au L.up.length cu] 25) = WB
  have HWB := Lib.hid hWb
  have HB0 := Lib.hid (show Below w.heap.size w WB by rw [← hWb]; exact below_new _)
  have hs0 : WB.heap.size = w.heap.size + 1 := by rw [← hWb]; simp
  have HS0 := Lib.hid hs0
  have HC0 := Lib.hid (show WB.cell? ⟨w.heap.size, 0, none⟩ = some (.slice An L.names.length cn) by rw [← hWb]; simp [go_sem])
  have HC1 := Lib.hid (show WB.cell? ⟨w.heap.size, 1, none⟩ = some (.slice Au L.up.length cu) by rw [← hWb]; simp [go_sem])
  have HLB := Lib.hid (HL.out.below HB0.out)
  clear hWb hs0
  go_enter Tryd.func9, Tryd.ntmps9
  go_wp2_with fail
  rw [HWB.out]
  refine (check_any HLB.out).mono ?_
  rintro e w1 ⟨rfl, hb1⟩
  have HB1 := Lib.hid (below_step HB0.out HB0.out.size hb1)
  have HK1 := Lib.hid ((hb1.cell (p := ⟨w.heap.size, 1, none⟩) (by rw [HS0.out]; simp)).trans HC1.out)
  have hz : w.heap.size < w1.heap.size := by have := hb1.size; rw [HS0.out] at this; omega
  clear hb1
  by_cases h1 : checkE L = 0
  · by_cases h2 : code.length ≤ 12
    · have HR := Lib.hid (show rightB L code = !(code.any fun x => !instrOk L.up.length x) by simp [rightB, h1, h2, List.not_any_eq_all_not])
      have HX := Lib.hid (containsFuncInstr_any (c := cc) (Kd.C_below HC.out HB1.out) 32 (entersF Tryd.func32 (by kernel_rfl) rfl) (.pointer (some ⟨w.heap.size, 0, none⟩)) (fun x => !instrOk L.up.length x)
        (fun x W _ hb => right1_any ((hb.cell (p := ⟨w.heap.size, 1, none⟩) hz).trans HK1.out) (Nat.lt_of_lt_of_le hz hb.size) x))
      have h1' : (checkE L == 0) = true := by simp [h1]
      clear h1
      go_wp2_with fail
      refine HX.out.mono ?_
      rintro e w2 ⟨rfl, hb2⟩
      have HB2 := Lib.hid (below_step HB1.out HB1.out.size hb2)
      clear hb2
      go_wp2
      go_ret
      exact ⟨ret_bool (by rw [HR.out]), HB2.out⟩
    · have HR := Lib.hid (show rightB L code = false by simp [rightB, h2])
      have h1' : (checkE L == 0) = true := by simp [h1]
      clear h1
      go_wp2
      go_ret
      exact ⟨ret_bool (by rw [HR.out]), HB1.out⟩
  · have HR := Lib.hid (show rightB L code = false by simp [rightB, h1])
    have h1' : (checkE L == 0) = false := by simpa using h1
    clear h1
    go_wp2
    go_ret
    exact ⟨ret_bool (by rw [HR.out]), HB1.out⟩
end Go.Proofs.YtmcafcgbbhcjhaaDoor
