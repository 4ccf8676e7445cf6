/- code: the reader's number. -/
import Derived.Test.YtmcafcgbbhcjhaaDoorCodG
namespace Go.Proofs.YtmcafcgbbhcjhaaDoor
open Go.RowKit Go.Shelf Go.Proofs.YtmcafcgbbhcjhaaDoorW.PrintWords
attribute [local go_sem] Oper.semAt_some

/-- A number that is read: its sign, its place, its digits. -/
def dashB : ByteArray := ⟨#[45]⟩
def negOk (t : Tok) : Bool := markOk t dashB
def digs : List UInt8 → Int → Int
  | [], n => n
  | c :: cs, n => digs cs (10 * n + ((c.toNat % 16 : Nat) : Int))
def numOk (t : Tok) : Bool := decide (t.kind = 2) && decide (t.text.size ≤ 4)
def numJ (T : List Tok) (i : Nat) : Nat := if negOk (tk T i) = true then i + 1 else i
def numI (T : List Tok) (i : Nat) : Nat := if numOk (tk T (numJ T i)) = true then numJ T i + 1 else numJ T i
def numE (T : List Tok) (i : Nat) : Int := if numOk (tk T (numJ T i)) = true then 0 else 4
def numV (T : List Tok) (i : Nat) : Int := if numOk (tk T (numJ T i)) = true then (if negOk (tk T i) = true then -1 else 1) * digs (tk T (numJ T i)).text.data.toList 0 else 0
theorem digs_snoc (l : List UInt8) (c : UInt8) (n : Int) : digs (l ++ [c]) n = 10 * digs l n + ((c.toNat % 16 : Nat) : Int) := by
  induction l generalizing n with
  | nil => rfl
  | cons d l ih => exact ih _
theorem digs_bound (l : List UInt8) (n : Int) (hn : 0 ≤ n) : 0 ≤ digs l n ∧ digs l n ≤ (n + 2) * 10 ^ l.length := by
  induction l generalizing n with
  | nil => simp [digs]; omega
  | cons d l ih =>
    have hd : d.toNat % 16 < 16 := Nat.mod_lt _ (by decide)
    obtain ⟨h1, h2⟩ := ih (10 * n + ((d.toNat % 16 : Nat) : Int)) (by omega)
    refine ⟨h1, Int.le_trans h2 ?_⟩
    rw [List.length_cons, Int.pow_succ]
    have hp : (0 : Int) ≤ 10 ^ l.length := Int.pow_nonneg (by decide)
    have := Int.mul_le_mul_of_nonneg_right (show 10 * n + ((d.toNat % 16 : Nat) : Int) + 2 ≤ 10 * (n + 2) by omega) hp
    calc _ ≤ 10 * (n + 2) * 10 ^ l.length := this
      _ = (n + 2) * (10 ^ l.length * 10) := by rw [Int.mul_comm 10 (n + 2), Int.mul_assoc, Int.mul_comm 10]
theorem digs_small {s : ByteArray} {k : Nat} (hk : k ≤ s.size) (h4 : s.size ≤ 4) : 0 ≤ digs (s.data.toList.take k) 0 ∧ digs (s.data.toList.take k) 0 ≤ 20000 := by
  obtain ⟨h1, h2⟩ := digs_bound (s.data.toList.take k) 0 (by decide)
  refine ⟨h1, Int.le_trans h2 ?_⟩
  have hl : (s.data.toList.take k).length = k := by rw [List.length_take]; simp; omega
  rw [hl]
  have : k = 0 ∨ k = 1 ∨ k = 2 ∨ k = 3 ∨ k = 4 := by omega
  rcases this with e | e | e | e | e <;> subst e <;> decide
theorem w64 (n : Int) (h : -9223372036854775808 ≤ n ∧ n ≤ 9223372036854775807) : wrap64 n = n := by unfold wrap64; omega
theorem u8_15 (a : Nat) (ha : a < 256) : bits .and .u8 (a : Int) 15 = ((a % 16 : Nat) : Int) := by
  have e : a &&& 15 = a % 16 := Nat.and_two_pow_sub_one_eq_mod a 4
  show IntKind.u8.wrap ((BitVec.ofInt 8 (a : Int) &&& BitVec.ofInt 8 (15 : Int)).toNat : Int) = _
  rw [BitVec.toNat_and, BitVec.ofInt_natCast, show BitVec.ofInt 8 (15 : Int) = BitVec.ofNat 8 15 from rfl, BitVec.toNat_ofNat, BitVec.toNat_ofNat, Nat.mod_eq_of_lt (by omega), Nat.mod_eq_of_lt (by omega), e]
  simp only [IntKind.wrap]
  simp [IntKind.signed, IntKind.bits]
  omega
theorem digs_round {s : ByteArray} {k : Nat} (hlt : k < s.size) {d : Int} (hd : d = digs (s.data.toList.take k) 0) (hd0 : 0 ≤ d ∧ d ≤ 20000) : wrap64 (10 * d + wrap64 (bits .and .u8 ((s[k].toNat : Nat) : Int) 15)) = digs (s.data.toList.take (k + 1)) 0 := by
  have hb : s[k].toNat < 256 := UInt8.toNat_lt _
  rw [u8_15 _ hb, take_snocB s k hlt, digs_snoc, ← hd, w64 ((s[k].toNat % 16 : Nat) : Int) (by omega), w64 _ (by omega)]
theorem ba_lit (s : ByteArray) (l : List UInt8) : (s.toList == l) = decide (s = ⟨l.toArray⟩) := by
  have h := ba_tl s ⟨l.toArray⟩
  rwa [show (⟨l.toArray⟩ : ByteArray).toList = l by rw [ByteArray.toList_eq]] at h
section
variable {w0 : World} {An Au At : Option Addr} {cn cu ct : Nat} {L : Lat} {T : List Tok} {B i : Nat} {w : World}
set_option maxRecDepth 100000 in
set_option maxHeartbeats 2000000 in
theorem number_any' (hI : RdIn w0 An cn Au cu L At T B) (h : RdAt w0 An cn Au cu L At ct T B w i 0) :
    Calls Tryd.prog 121 #[.pointer (some ⟨B, 0, none⟩)] w fun e w' => e = .returned (.int .i64 (numV T i)) ∧ RdAt w0 An cn Au cu L At ct T B w' (numI T i) (numE T i) ∧ But B w w' := by
  have hlenT := hI.toks.2.1
  have HI := Lib.hid hI
  have HH := Lib.hid h
  have HT := Lib.hid (tok_any hI h)
  clear h hI
  go_enter Tryd.func121, Tryd.ntmps121
  go_wp2_with fail
  refine HT.out.mono ?_
  rintro e w1 ⟨rfl, hb1⟩
  have h1 := HH.out.next hb1
  have HB1 := Lib.hid hb1
  have HH1 := Lib.hid h1
  have hc3 := h1.c3
  have hf3 := h1.f3
  have hlt := h1.lt
  have hpl := h1.place
  clear h1 hb1
  cases hng : negOk (tk T i) with
  | true =>
    have hk' : ((tk T i).kind == 3) = true := by simp [negOk, markOk] at hng; simp [hng.1]
    have hs' : ((tk T i).text.toList == [45]) = true := by rw [ba_lit]; simp [negOk, markOk] at hng; simp [hng.2]; rfl
    have hr := HI.out.room hpl (by simp [negOk, markOk] at hng; rw [hng.1]; decide)
    have HJ := Lib.hid (show numJ T i = i + 1 by simp [numJ, hng])
    have HNG := Lib.hid hng
    have HHJ := Lib.hid ((HH1.out.place_set HI.out hr).next (below_new (.cells #[.int .i64 (tk T i).kind, .string (tk T i).text, .int .i64 (tk T i).at_] 93)))
    have HBJ := Lib.hid (((But.of HB1.out).set (B := B) (o := 3) (.int .i64 ((i + 1 : Nat) : Int))).step (below_new (.cells #[.int .i64 (tk T i).kind, .string (tk T i).text, .int .i64 (tk T i).at_] 93)))
    clear hng
    go_wp2_with fail
    refine (tok_any HI.out HHJ.out).mono ?_
    rintro e w3 ⟨rfl, hb3⟩
    have HB3 := Lib.hid (HBJ.out.step hb3)
    have h3 := HHJ.out.next hb3
    have HH3 := Lib.hid h3
    have hc3' := h3.c3
    have hf3' := h3.f3
    have hlt' := h3.lt
    have hpl' := h3.place
    have HA3 := Lib.hid (h3.next (below_new (.cells #[.int .i64 (tk T (i + 1)).kind, .string (tk T (i + 1)).text, .int .i64 (tk T (i + 1)).at_] 93)))
    clear h3 hb3
    by_cases hkk : (tk T (i + 1)).kind = 2
    · have hkk' : ((tk T (i + 1)).kind != 2) = false := by simp [hkk]
      by_cases hll : (tk T (i + 1)).text.size ≤ 4
      · have hll' : ((tk T (i + 1)).text.size : Int) ≤ 4 := by omega
        have hok : numOk (tk T (i + 1)) = true := by simp [numOk, hkk, hll]
        have HV := Lib.hid (show numV T i = -1 * digs (tk T (i + 1)).text.data.toList 0 by simp [numV, HJ.out, hok, HNG.out])
        have HE := Lib.hid (show numE T i = 0 by simp [numE, HJ.out, hok])
        have HIx := Lib.hid (show numI T i = (i + 1) + 1 by simp [numI, HJ.out, hok])
        have hr' := HI.out.room hpl' (by rw [hkk]; decide)
        have HN := Lib.hid (HH3.out.place_set HI.out hr')
        have hcT : (w3.alloc (.cells #[.int .i64 (tk T (i + 1)).kind, .string (tk T (i + 1)).text, .int .i64 (tk T (i + 1)).at_] 93)).cell? ⟨w3.heap.size, 1, none⟩ = some (.string (tk T (i + 1)).text) := by simp [go_sem]
        clear hkk hok
        go_wp2
        go_loop [6, 41] (fun n x => ∃ k : Nat, k ≤ (tk T (i + 1)).text.size ∧ x = .int .i64 k ∧ n = .int .i64 (digs ((tk T (i + 1)).text.data.toList.take k) 0)) (fun _ x => (tk T (i + 1)).text.size - (intOf x).toNat)
        case atStart => exact ⟨0, Nat.zero_le _, rfl, rfl⟩
        case round =>
          obtain ⟨k, hk, rfl, rfl⟩ := hrel
          by_cases hlt2 : k < (tk T (i + 1)).text.size
          · obtain ⟨d, hd⟩ : ∃ d, d = digs ((tk T (i + 1)).text.data.toList.take k) 0 := ⟨_, rfl⟩
            have HD := Lib.hid hd
            have hd0 : 0 ≤ d ∧ d ≤ 20000 := by rw [hd]; exact digs_small hk hll
            rw [← hd]
            clear hd
            go_wp2
            go_round
            case rel => exact ⟨k + 1, by omega, by go_num, by rw [digs_round hlt2 HD.out hd0]⟩
            case measure => simp [intOf]; omega
          · have hke : k = (tk T (i + 1)).text.size := by omega
            subst hke
            have hte : (tk T (i + 1)).text.data.toList.take (tk T (i + 1)).text.size = (tk T (i + 1)).text.data.toList := List.take_of_length_le (by simp)
            rw [hte]
            obtain ⟨d, hd⟩ : ∃ d, d = digs (tk T (i + 1)).text.data.toList 0 := ⟨_, rfl⟩
            have HD := Lib.hid hd
            have hd0 : 0 ≤ d ∧ d ≤ 20000 := by have := digs_small (s := (tk T (i + 1)).text) (Nat.le_refl _) hll; rw [hte] at this; rw [hd]; exact this
            rw [← hd]
            clear hd hte
            go_wp2
            go_ret
            exact ⟨ret_int (by rw [HV.out, ← HD.out]; omega), by rw [HIx.out, HE.out]; exact HN.out.next (below_new _), (HB3.out.set _).step (below_new _)⟩
      · have hll' : ¬ ((tk T (i + 1)).text.size : Int) ≤ 4 := by omega
        have hok : numOk (tk T (i + 1)) = false := by simp [numOk, hll]
        have HV := Lib.hid (show numV T i = 0 by simp [numV, HJ.out, hok])
        have HE := Lib.hid (show numE T i = orE 0 4 by simp [numE, HJ.out, hok, orE])
        have HIx := Lib.hid (show numI T i = (i + 1) by simp [numI, HJ.out, hok])
        have HF := Lib.hid (fail_any HI.out HA3.out 4)
        clear hkk hok
        go_wp2_with fail
        refine HF.out.mono ?_
        rintro e w4 ⟨rfl, h4, h5⟩
        have HH4 := Lib.hid h4
        have HB4 := Lib.hid h5
        clear h4 h5
        go_wp2
        go_ret
        exact ⟨ret_int (by rw [HV.out]), by rw [HIx.out, HE.out]; exact HH4.out, (HB3.out.step (below_new _)).trans HB4.out⟩
    · have hkk' : ((tk T (i + 1)).kind != 2) = true := by simpa using hkk
      have hok : numOk (tk T (i + 1)) = false := by simp [numOk, hkk]
      have HV := Lib.hid (show numV T i = 0 by simp [numV, HJ.out, hok])
      have HE := Lib.hid (show numE T i = orE 0 4 by simp [numE, HJ.out, hok, orE])
      have HIx := Lib.hid (show numI T i = (i + 1) by simp [numI, HJ.out, hok])
      have HF := Lib.hid (fail_any HI.out HA3.out 4)
      clear hkk hok
      go_wp2_with fail
      refine HF.out.mono ?_
      rintro e w4 ⟨rfl, h4, h5⟩
      have HH4 := Lib.hid h4
      have HB4 := Lib.hid h5
      clear h4 h5
      go_wp2
      go_ret
      exact ⟨ret_int (by rw [HV.out]), by rw [HIx.out, HE.out]; exact HH4.out, (HB3.out.step (below_new _)).trans HB4.out⟩
  | false =>
    have HJ := Lib.hid (show numJ T i = i by simp [numJ, hng])
    have HNG := Lib.hid hng
    have HHJ := Lib.hid (HH1.out.next (below_new (.cells #[.int .i64 (tk T i).kind, .string (tk T i).text, .int .i64 (tk T i).at_] 93)))
    have HBJ := Lib.hid ((But.of (B := B) HB1.out).step (below_new (.cells #[.int .i64 (tk T i).kind, .string (tk T i).text, .int .i64 (tk T i).at_] 93)))
    by_cases hk3 : (tk T i).kind = 3
    · have hk' : ((tk T i).kind == 3) = true := by simp [hk3]
      have hs' : ((tk T i).text.toList == [45]) = false := by rw [ba_lit]; simp [negOk, markOk, hk3] at hng; exact decide_eq_false hng
      clear hng hk3
      go_wp2_with fail
      refine (tok_any HI.out HHJ.out).mono ?_
      rintro e w3 ⟨rfl, hb3⟩
      have HB3 := Lib.hid (HBJ.out.step hb3)
      have h3 := HHJ.out.next hb3
      have HH3 := Lib.hid h3
      have hc3' := h3.c3
      have hf3' := h3.f3
      have hlt' := h3.lt
      have hpl' := h3.place
      have HA3 := Lib.hid (h3.next (below_new (.cells #[.int .i64 (tk T i).kind, .string (tk T i).text, .int .i64 (tk T i).at_] 93)))
      clear h3 hb3
      by_cases hkk : (tk T i).kind = 2
      · have hkk' : ((tk T i).kind != 2) = false := by simp [hkk]
        by_cases hll : (tk T i).text.size ≤ 4
        · have hll' : ((tk T i).text.size : Int) ≤ 4 := by omega
          have hok : numOk (tk T i) = true := by simp [numOk, hkk, hll]
          have HV := Lib.hid (show numV T i = 1 * digs (tk T i).text.data.toList 0 by simp [numV, HJ.out, hok, HNG.out])
          have HE := Lib.hid (show numE T i = 0 by simp [numE, HJ.out, hok])
          have HIx := Lib.hid (show numI T i = i + 1 by simp [numI, HJ.out, hok])
          have hr' := HI.out.room hpl' (by rw [hkk]; decide)
          have HN := Lib.hid (HH3.out.place_set HI.out hr')
          have hcT : (w3.alloc (.cells #[.int .i64 (tk T i).kind, .string (tk T i).text, .int .i64 (tk T i).at_] 93)).cell? ⟨w3.heap.size, 1, none⟩ = some (.string (tk T i).text) := by simp [go_sem]
          clear hkk hok
          go_wp2
          go_loop [6, 41] (fun n x => ∃ k : Nat, k ≤ (tk T i).text.size ∧ x = .int .i64 k ∧ n = .int .i64 (digs ((tk T i).text.data.toList.take k) 0)) (fun _ x => (tk T i).text.size - (intOf x).toNat)
          case atStart => exact ⟨0, Nat.zero_le _, rfl, rfl⟩
          case round =>
            obtain ⟨k, hk, rfl, rfl⟩ := hrel
            by_cases hlt2 : k < (tk T i).text.size
            · obtain ⟨d, hd⟩ : ∃ d, d = digs ((tk T i).text.data.toList.take k) 0 := ⟨_, rfl⟩
              have HD := Lib.hid hd
              have hd0 : 0 ≤ d ∧ d ≤ 20000 := by rw [hd]; exact digs_small hk hll
              rw [← hd]
              clear hd
              go_wp2
              go_round
              case rel => exact ⟨k + 1, by omega, by go_num, by rw [digs_round hlt2 HD.out hd0]⟩
              case measure => simp [intOf]; omega
            · have hke : k = (tk T i).text.size := by omega
              subst hke
              have hte : (tk T i).text.data.toList.take (tk T i).text.size = (tk T i).text.data.toList := List.take_of_length_le (by simp)
              rw [hte]
              obtain ⟨d, hd⟩ : ∃ d, d = digs (tk T i).text.data.toList 0 := ⟨_, rfl⟩
              have HD := Lib.hid hd
              have hd0 : 0 ≤ d ∧ d ≤ 20000 := by have := digs_small (s := (tk T i).text) (Nat.le_refl _) hll; rw [hte] at this; rw [hd]; exact this
              rw [← hd]
              clear hd hte
              go_wp2
              go_ret
              exact ⟨ret_int (by rw [HV.out, ← HD.out]; omega), by rw [HIx.out, HE.out]; exact HN.out.next (below_new _), (HB3.out.set _).step (below_new _)⟩
        · have hll' : ¬ ((tk T i).text.size : Int) ≤ 4 := by omega
          have hok : numOk (tk T i) = false := by simp [numOk, hll]
          have HV := Lib.hid (show numV T i = 0 by simp [numV, HJ.out, hok])
          have HE := Lib.hid (show numE T i = orE 0 4 by simp [numE, HJ.out, hok, orE])
          have HIx := Lib.hid (show numI T i = i by simp [numI, HJ.out, hok])
          have HF := Lib.hid (fail_any HI.out HA3.out 4)
          clear hkk hok
          go_wp2_with fail
          refine HF.out.mono ?_
          rintro e w4 ⟨rfl, h4, h5⟩
          have HH4 := Lib.hid h4
          have HB4 := Lib.hid h5
          clear h4 h5
          go_wp2
          go_ret
          exact ⟨ret_int (by rw [HV.out]), by rw [HIx.out, HE.out]; exact HH4.out, (HB3.out.step (below_new _)).trans HB4.out⟩
      · have hkk' : ((tk T i).kind != 2) = true := by simpa using hkk
        have hok : numOk (tk T i) = false := by simp [numOk, hkk]
        have HV := Lib.hid (show numV T i = 0 by simp [numV, HJ.out, hok])
        have HE := Lib.hid (show numE T i = orE 0 4 by simp [numE, HJ.out, hok, orE])
        have HIx := Lib.hid (show numI T i = i by simp [numI, HJ.out, hok])
        have HF := Lib.hid (fail_any HI.out HA3.out 4)
        clear hkk hok
        go_wp2_with fail
        refine HF.out.mono ?_
        rintro e w4 ⟨rfl, h4, h5⟩
        have HH4 := Lib.hid h4
        have HB4 := Lib.hid h5
        clear h4 h5
        go_wp2
        go_ret
        exact ⟨ret_int (by rw [HV.out]), by rw [HIx.out, HE.out]; exact HH4.out, (HB3.out.step (below_new _)).trans HB4.out⟩
    · have hk' : ((tk T i).kind == 3) = false := by simpa using hk3
      clear hng hk3
      go_wp2_with fail
      refine (tok_any HI.out HHJ.out).mono ?_
      rintro e w3 ⟨rfl, hb3⟩
      have HB3 := Lib.hid (HBJ.out.step hb3)
      have h3 := HHJ.out.next hb3
      have HH3 := Lib.hid h3
      have hc3' := h3.c3
      have hf3' := h3.f3
      have hlt' := h3.lt
      have hpl' := h3.place
      have HA3 := Lib.hid (h3.next (below_new (.cells #[.int .i64 (tk T i).kind, .string (tk T i).text, .int .i64 (tk T i).at_] 93)))
      clear h3 hb3
      by_cases hkk : (tk T i).kind = 2
      · have hkk' : ((tk T i).kind != 2) = false := by simp [hkk]
        by_cases hll : (tk T i).text.size ≤ 4
        · have hll' : ((tk T i).text.size : Int) ≤ 4 := by omega
          have hok : numOk (tk T i) = true := by simp [numOk, hkk, hll]
          have HV := Lib.hid (show numV T i = 1 * digs (tk T i).text.data.toList 0 by simp [numV, HJ.out, hok, HNG.out])
          have HE := Lib.hid (show numE T i = 0 by simp [numE, HJ.out, hok])
          have HIx := Lib.hid (show numI T i = i + 1 by simp [numI, HJ.out, hok])
          have hr' := HI.out.room hpl' (by rw [hkk]; decide)
          have HN := Lib.hid (HH3.out.place_set HI.out hr')
          have hcT : (w3.alloc (.cells #[.int .i64 (tk T i).kind, .string (tk T i).text, .int .i64 (tk T i).at_] 93)).cell? ⟨w3.heap.size, 1, none⟩ = some (.string (tk T i).text) := by simp [go_sem]
          clear hkk hok
          go_wp2
          go_loop [6, 41] (fun n x => ∃ k : Nat, k ≤ (tk T i).text.size ∧ x = .int .i64 k ∧ n = .int .i64 (digs ((tk T i).text.data.toList.take k) 0)) (fun _ x => (tk T i).text.size - (intOf x).toNat)
          case atStart => exact ⟨0, Nat.zero_le _, rfl, rfl⟩
          case round =>
            obtain ⟨k, hk, rfl, rfl⟩ := hrel
            by_cases hlt2 : k < (tk T i).text.size
            · obtain ⟨d, hd⟩ : ∃ d, d = digs ((tk T i).text.data.toList.take k) 0 := ⟨_, rfl⟩
              have HD := Lib.hid hd
              have hd0 : 0 ≤ d ∧ d ≤ 20000 := by rw [hd]; exact digs_small hk hll
              rw [← hd]
              clear hd
              go_wp2
              go_round
              case rel => exact ⟨k + 1, by omega, by go_num, by rw [digs_round hlt2 HD.out hd0]⟩
              case measure => simp [intOf]; omega
            · have hke : k = (tk T i).text.size := by omega
              subst hke
              have hte : (tk T i).text.data.toList.take (tk T i).text.size = (tk T i).text.data.toList := List.take_of_length_le (by simp)
              rw [hte]
              obtain ⟨d, hd⟩ : ∃ d, d = digs (tk T i).text.data.toList 0 := ⟨_, rfl⟩
              have HD := Lib.hid hd
              have hd0 : 0 ≤ d ∧ d ≤ 20000 := by have := digs_small (s := (tk T i).text) (Nat.le_refl _) hll; rw [hte] at this; rw [hd]; exact this
              rw [← hd]
              clear hd hte
              go_wp2
              go_ret
              exact ⟨ret_int (by rw [HV.out, ← HD.out]; omega), by rw [HIx.out, HE.out]; exact HN.out.next (below_new _), (HB3.out.set _).step (below_new _)⟩
        · have hll' : ¬ ((tk T i).text.size : Int) ≤ 4 := by omega
          have hok : numOk (tk T i) = false := by simp [numOk, hll]
          have HV := Lib.hid (show numV T i = 0 by simp [numV, HJ.out, hok])
          have HE := Lib.hid (show numE T i = orE 0 4 by simp [numE, HJ.out, hok, orE])
          have HIx := Lib.hid (show numI T i = i by simp [numI, HJ.out, hok])
          have HF := Lib.hid (fail_any HI.out HA3.out 4)
          clear hkk hok
          go_wp2_with fail
          refine HF.out.mono ?_
          rintro e w4 ⟨rfl, h4, h5⟩
          have HH4 := Lib.hid h4
          have HB4 := Lib.hid h5
          clear h4 h5
          go_wp2
          go_ret
          exact ⟨ret_int (by rw [HV.out]), by rw [HIx.out, HE.out]; exact HH4.out, (HB3.out.step (below_new _)).trans HB4.out⟩
      · have hkk' : ((tk T i).kind != 2) = true := by simpa using hkk
        have hok : numOk (tk T i) = false := by simp [numOk, hkk]
        have HV := Lib.hid (show numV T i = 0 by simp [numV, HJ.out, hok])
        have HE := Lib.hid (show numE T i = orE 0 4 by simp [numE, HJ.out, hok, orE])
        have HIx := Lib.hid (show numI T i = i by simp [numI, HJ.out, hok])
        have HF := Lib.hid (fail_any HI.out HA3.out 4)
        clear hkk hok
        go_wp2_with fail
        refine HF.out.mono ?_
        rintro e w4 ⟨rfl, h4, h5⟩
        have HH4 := Lib.hid h4
        have HB4 := Lib.hid h5
        clear h4 h5
        go_wp2
        go_ret
        exact ⟨ret_int (by rw [HV.out]), by rw [HIx.out, HE.out]; exact HH4.out, (HB3.out.step (below_new _)).trans HB4.out⟩
end
end Go.Proofs.YtmcafcgbbhcjhaaDoor
