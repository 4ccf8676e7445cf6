/- reticentlaw08: alive. -/
import Derived.Test.YtmcafcgbbhcjhaaDoorLawB
import Derived.Test.YtmcafcgbbhcjhaaDoorCodE
namespace Go.Proofs.YtmcafcgbbhcjhaaDoor
open Go.RowKit Go.Shelf Go.Proofs.YtmcafcgbbhcjhaaDoorW.PrintWords
attribute [local go_sem] Oper.semAt_some

def aL : Lat := ⟨[⟨#[97]⟩, ⟨#[98]⟩], [3, 2]⟩
def aS : ByteArray := ⟨#[112, 117, 115, 104, 32, 45, 32, 51, 32, 64, 32, 98, 32, 59, 32, 104, 97, 108, 116, 32, 59]⟩
def aT : List Tok := (lexP aS).1
def aX : List Instr := [⟨1, -3, 1⟩, ⟨12, 0, 0⟩]
theorem a_check : checkE aL = 0 := by decide +kernel
theorem a_lex : (lexP aS).2 = (0, 0) := by decide +kernel
theorem a_lex' : lexP aS = (aT, 0, 0) := Prod.ext rfl a_lex
theorem a_from : fromP aL aT 0 = (aX, 8, 0) := by decide +kernel
theorem a_len : 8 < aT.length := by decide +kernel
theorem a_end : (tk aT 8).kind = 0 := by decide +kernel
theorem a_right : rightB aL aX = true := by decide +kernel
theorem reps_two {α : Type} {R : α → List Value → Prop} {x y : α} {u v : Value} (hx : R x [u]) (hy : R y [v]) : Reps R 1 [x, y] [u, v] := ((Reps.none R 1).snoc hx rfl).snoc hy rfl
def uR1 (x : Nat) (cs : List Value) : Prop := cs = [.int .u32 (x : Int)]
theorem own_C_up {w : World} {base : Nat} {v : Value} {xs : List Nat} (h : OwnRow uR1 60 1 w base v xs) : ∃ A c, v = .slice A xs.length c ∧ xs.length ≤ c ∧ kUp.C w A xs.length xs := by
  obtain ⟨A, c, hv, hl, hr⟩ := h.reads
  exact ⟨A, c, hv, hl, hr⟩
theorem a_lat (w : World) : LatAt (((w.alloc (.cells #[.string ⟨#[97]⟩, .string ⟨#[98]⟩] 9)).alloc (.cells #[.int .u32 3, .int .u32 2] 60)).alloc (.cells #[.slice (some ⟨w.heap.size, 0, none⟩) 2 2, .slice (some ⟨w.heap.size + 1, 0, none⟩) 2 2] 25))
    (some ⟨w.heap.size, 0, none⟩) 2 (some ⟨w.heap.size + 1, 0, none⟩) 2 aL := by
  have h1 := OwnRow.lit (R := sR1) (e := 9) (size := 1) (ps := aL.names) w 0 (reps_two (u := .string ⟨#[97]⟩) (v := .string ⟨#[98]⟩) rfl rfl) (Nat.zero_le _) (by decide)
  have h2 := OwnRow.lit (R := uR1) (e := 60) (size := 1) (ps := aL.up) (w.alloc (.cells #[.string ⟨#[97]⟩, .string ⟨#[98]⟩] 9)) 0 (reps_two (u := .int .u32 3) (v := .int .u32 2) rfl rfl) (Nat.zero_le _) (by decide)
  obtain ⟨A1, c1, e1, -, k1⟩ := own_C_str h1
  obtain ⟨A2, c2, e2, -, k2⟩ := own_C_up h2
  cases e1
  cases e2
  have hs : (w.alloc (.cells #[.string ⟨#[97]⟩, .string ⟨#[98]⟩] 9)).heap.size = w.heap.size + 1 := by simp
  rw [hs] at k2
  refine ⟨Kd.C_below (Kd.C_below k1 (below_new _)) (below_new _), Kd.C_below k2 (below_new _), by decide, by decide, ?_, ?_⟩
  · intro s hs
    simp only [aL, List.mem_cons, List.not_mem_nil, or_false] at hs
    rcases hs with rfl | rfl <;> decide
  · intro x hx
    simp only [aL, List.mem_cons, List.not_mem_nil, or_false] at hx
    rcases hx with rfl | rfl <;> decide
set_option maxRecDepth 100000 in
set_option maxHeartbeats 2000000 in
theorem alive_any {w : World} (hW : WordsAt w) :
    Calls Tryd.prog 12 #[] w fun e w' => e = .returned (.bool true) ∧ Below w.heap.size w w' := by
  have HL := Lib.hid (a_lat w)
  have HW := Lib.hid hW
  clear hW
  generalize hWb : (((w.alloc (.cells #[.string ⟨#[97]⟩, .string ⟨#[98]⟩] 9)).alloc (.cells #[.int .u32 3, .int .u32 2] 60)).alloc (.cells #[.slice (some ⟨w.heap.size, 0, none⟩) 2 2, .slice (some ⟨w.heap.size + 1, 0, none⟩) 2 2] 25)) = WB at HL
  have HWB := Lib.hid hWb
  have HB0 := Lib.hid (show Below w.heap.size w WB by rw [← hWb]; exact below_alloc (below_alloc (below_new _) _) _)
  have hsz : w.heap.size + 1 + 1 < WB.heap.size := by rw [← hWb]; simp
  have hc0 : WB.cell? ⟨w.heap.size + 1 + 1, 0, none⟩ = some (.slice (some ⟨w.heap.size, 0, none⟩) 2 2) := by rw [← hWb]; simp [go_sem]
  have hc1 : WB.cell? ⟨w.heap.size + 1 + 1, 1, none⟩ = some (.slice (some ⟨w.heap.size + 1, 0, none⟩) 2 2) := by rw [← hWb]; simp [go_sem]
  clear hWb
  have hg : Tryd.prog.eqGuardType Tryd.prog.depth 51 = false := by kernel_rfl
  have hq : ∀ W : World, (Op.equalIn 10000 51 (.agg #[.int .i64 1, .int .i64 (-3), .int .i64 1]) (.agg #[.int .i64 1, .int .i64 (-3), .int .i64 1])).run Tryd.prog W = .ok true W := fun W => by
    have := eqInstr W ⟨1, -3, 1⟩ ⟨1, -3, 1⟩
    simpa using this
  go_enter Tryd.func12, Tryd.ntmps12
  go_wp2_with fail
  rw [HWB.out]
  refine (parse_ok (HW.out.next HB0.out) HL.out aS (by decide) a_check a_lex' a_from a_len a_end).mono ?_
  rintro e w1 ⟨v, rfl, ho, hb⟩
  obtain ⟨A1, c1, rfl, hct, hX⟩ := own_C_instr ho
  obtain ⟨ad, rfl, t0, t1, t2, hblk⟩ := at_instr hX (k := 0) (by decide)
  obtain ⟨k, rfl⟩ : ∃ k : Aft WB, w1 = k.w := ⟨⟨w1, hb⟩, rfl⟩
  have HR := Lib.hid (Right_any (cc := c1) (HL.out.below k.below) hX)
  rw [a_right] at HR
  have HFin : Hid (∀ i : Aft WB, Below w.heap.size w i.w) := Lib.hid (fun i => below_step HB0.out HB0.out.size i.below)
  change k.w.cell? ad = some (.int .i64 1) at t0
  change k.w.cell? ⟨ad.block, ad.off + 1, none⟩ = some (.int .i64 (-3)) at t1
  change k.w.cell? ⟨ad.block, ad.off + 2, none⟩ = some (.int .i64 1) at t2
  change ad.block < k.w.heap.size at hblk
  clear ho hb hX

  go_wp2_with (go_at_call 9; refine (aft_call HR.out).mono ?_; rintro e _ ⟨rfl, j, rfl⟩)
  go_ret
  exact ⟨rfl, HFin.out j⟩
end Go.Proofs.YtmcafcgbbhcjhaaDoor
