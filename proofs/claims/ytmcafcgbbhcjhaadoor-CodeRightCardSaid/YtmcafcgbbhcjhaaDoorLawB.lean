/- code.Parse, where what is told may be told; what it makes reads as tokens, instructions. -/
import Derived.Test.YtmcafcgbbhcjhaaDoorLawA
import Derived.Test.YtmcafcgbbhcjhaaDoorLexC
namespace Go.Proofs.YtmcafcgbbhcjhaaDoor
open Go.RowKit Go.Shelf Go.Proofs.YtmcafcgbbhcjhaaDoorW.PrintWords
attribute [local go_sem] Oper.semAt_some

theorem aft0 {P : Program} {f : FuncId} {args : Array Value} {W : World} {v : Value} (h : Calls P f args W fun e w' => e = .returned v ∧ Below W.heap.size W w') :
    Calls P f args W fun e w'' => e = .returned v ∧ ∃ j : Aft W, w'' = j.w :=
  h.mono fun _ _ ⟨he, hb⟩ => ⟨he, ⟨_, hb⟩, rfl⟩
theorem Aft.next {W w' : World} (i : Aft W) (h : Below i.w.heap.size i.w w') : ∃ j : Aft W, w' = j.w := ⟨⟨w', i.below.trans (below_le h i.below.size)⟩, rfl⟩
theorem own_C_tok {w : World} {base : Nat} {v : Value} {xs : List Tok} (h : OwnRow tR 93 3 w base v xs) : ∃ A c, v = .slice A xs.length c ∧ xs.length ≤ c ∧ kTok.C w A xs.length xs := by
  obtain ⟨A, c, hv, hl, hr⟩ := (h.imp_ (R' := kTok.K w) (fun p c hp => by rw [hp]; exact kTok_mk w p)).reads
  exact ⟨A, c, hv, hl, hr⟩
theorem own_C_instr {w : World} {base : Nat} {v : Value} {xs : List Instr} (h : OwnRow iR 51 3 w base v xs) : ∃ A c, v = .slice A xs.length c ∧ xs.length ≤ c ∧ kInstr.C w A xs.length xs := by
  obtain ⟨A, c, hv, hl, hr⟩ := (h.imp_ (R' := kInstr.K w) (fun p c hp => by rw [hp]; exact kInstr_mk w p)).reads
  exact ⟨A, c, hv, hl, hr⟩
set_option maxRecDepth 100000 in
set_option maxHeartbeats 2000000 in
theorem parse_ok {w : World} {An Au : Option Addr} {cn cu : Nat} {L : Lat} (hW : WordsAt w) (hL : LatAt w An cn Au cu L) (s : ByteArray) (hs : s.size ≤ 9223372036854775807) {T : List Tok} {X : List Instr} {i : Nat}
    (hE : checkE L = 0) (hX : lexP s = (T, 0, 0)) (hF : fromP L T 0 = (X, i, 0)) (hi : i < T.length) (hk : (tk T i).kind = 0) :
    Calls Tryd.prog 36 #[.agg #[.slice An L.names.length cn, .slice Au L.up.length cu], .string s] w (FromPost w (X, 0, 0)) := by
  have HL := Lib.hid hL
  have HW := Lib.hid hW
  have HE := Lib.hid hE
  have HX := Lib.hid hX
  have HF := Lib.hid hF
  have HK := Lib.hid hk
  clear hL hW hE hX hF hk
  generalize hWb : w.alloc (.cells #[.slice An L.names.length cn, .slice Au L.up.length cu] 25) = WB
  have HWB := Lib.hid hWb
  have HB0 := Lib.hid (show Below w.heap.size w WB by rw [← hWb]; exact below_new _)
  have hsz : w.heap.size < WB.heap.size := by rw [← hWb]; simp
  have hc0 : WB.cell? ⟨w.heap.size, 0, none⟩ = some (.slice An L.names.length cn) := by rw [← hWb]; simp [go_sem]
  have hc1 : WB.cell? ⟨w.heap.size, 1, none⟩ = some (.slice Au L.up.length cu) := by rw [← hWb]; simp [go_sem]
  have HLB := Lib.hid (HL.out.below HB0.out)
  have HWd := Lib.hid (HW.out.next HB0.out)
  clear hWb
  go_enter Tryd.func36, Tryd.ntmps36
  go_wp2_with fail
  rw [HWB.out]
  refine (aft0 (check_any HLB.out)).mono ?_
  rintro e _ ⟨rfl, j, rfl⟩
  rw [HE.out]
  go_wp2_with fail
  refine (lex_any s hs j.w).mono ?_
  rintro e w2 ⟨v, rfl, ho, hb⟩
  rw [HX.out] at ho ⊢
  obtain ⟨At, ct, rfl, hct, hT⟩ := own_C_tok ho
  obtain ⟨k, rfl⟩ := Aft.next j hb
  have HT := Lib.hid hT
  clear ho hb hT
  go_wp2_with fail
  refine (from_any (hW := HWd.out.next k.below) (HLB.out.below k.below) HT.out 0).mono ?_
  rintro e w3 ⟨v, rfl, ho, hb⟩
  rw [HF.out] at ho ⊢
  obtain ⟨ad, rfl, t0, -, -, hblk⟩ := at_tok (Kd.C_below HT.out hb) hi
  change w3.cell? _ = some (.int .i64 (tk T i).kind) at t0
  rw [HK.out] at t0
  obtain ⟨m, rfl⟩ := Aft.next k hb
  have HO := Lib.hid (ho.lower (base' := w.heap.size) (Nat.le_trans HB0.out.size k.below.size))
  have HBm := Lib.hid (below_step HB0.out HB0.out.size m.below)
  clear ho hb
  have hi' : (i : Int) < (T.length : Int) := by omega
  go_wp2
  go_ret3
  exact ⟨_, rfl, HO.out, HBm.out⟩
end Go.Proofs.YtmcafcgbbhcjhaaDoor
