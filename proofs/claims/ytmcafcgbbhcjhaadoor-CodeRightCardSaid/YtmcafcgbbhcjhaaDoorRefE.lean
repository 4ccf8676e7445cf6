/- reticentref08: Text. -/
import Derived.Test.YtmcafcgbbhcjhaaDoorRefB
import Derived.Test.YtmcafcgbbhcjhaaDoorRefD
namespace Go.Proofs.YtmcafcgbbhcjhaaDoor
open Go.RowKit Go.Shelf Go.Proofs.YtmcafcgbbhcjhaaDoorW.PrintWords
attribute [local go_sem] Oper.semAt_some

/-- As the reference writes one instruction behind what is there. -/
def rOne (L : Lat) (x : Instr) (s : ByteArray) : ByteArray :=
  let s1 := s ++ wordAt x.op.toNat
  let s2 := if (spanOf x.op).isSome = true then s1 ++ ⟨#[32]⟩ ++ signedB x.n else s1
  let s3 := if x.op = 1 then s2 ++ ⟨#[32, 64, 32]⟩ ++ nameAt L x.l else s2
  s3 ++ ⟨#[32, 59]⟩
def rText (L : Lat) : List Instr → Nat → ByteArray → ByteArray
  | [], _, s => s
  | x :: r, k, s => rText L r (k + 1) (rOne L x (if 0 < k then s ++ ⟨#[32]⟩ else s))
theorem rOne_eq (L : Lat) (x : Instr) (s : ByteArray) : rOne L x s = s ++ textOne L x := by
  have e : ∀ a b c : ByteArray, a ++ b ++ c = a ++ (b ++ c) := fun a b c => ByteArray.append_assoc
  unfold rOne textOne textLab textNum
  by_cases h1 : (spanOf x.op).isSome = true
  · by_cases h2 : x.op = 1
    · simp only [if_pos h1, if_pos h2, e]
    · simp only [if_pos h1, if_neg h2, e]
  · by_cases h2 : x.op = 1
    · simp only [if_neg h1, if_pos h2, e]
    · simp only [if_neg h1, if_neg h2, e]
theorem rText_snoc (L : Lat) (xs : List Instr) (x : Instr) : ∀ (k : Nat) (s : ByteArray), rText L (xs ++ [x]) k s = rOne L x (if 0 < k + xs.length then rText L xs k s ++ ⟨#[32]⟩ else rText L xs k s) := by
  induction xs with
  | nil => intro k s; simp [rText]
  | cons y ys ih =>
    intro k s
    simp only [List.cons_append, rText]
    rw [ih]
    simp only [List.length_cons]
    rw [show k + 1 + ys.length = k + (ys.length + 1) by omega]
theorem app_list (a b : ByteArray) : (a ++ b).data.toList = a.data.toList ++ b.data.toList := by
  rw [ByteArray.data_append, Array.toList_append]
theorem rText_tail (L : Lat) (r : List Instr) : ∀ (k : Nat) (s : ByteArray), (rText L r (k + 1) s).data.toList = s.data.toList ++ Lib.joinTail [32] ((r.map (textOne L)).map (·.data.toList)) := by
  induction r with
  | nil => intro k s; simp [rText, Lib.joinTail]
  | cons x r ih =>
    intro k s
    rw [rText, if_pos (by omega), ih, rOne_eq, app_list, app_list]
    simp [Lib.joinTail]
theorem rText_join (L : Lat) (xs : List Instr) : (rText L xs 0 ⟨#[]⟩).data.toList = Lib.join ((xs.map (textOne L)).map (·.data.toList)) [32] := by
  cases xs with
  | nil => rfl
  | cons x r =>
    rw [rText, if_neg (by omega), rText_tail, rOne_eq, app_list, List.map_cons, List.map_cons, Lib.join_cons]
    simp
theorem rText_all (L : Lat) (xs : List Instr) : rText L xs 0 ⟨#[]⟩ = textAll L xs := by
  apply ba_ext
  rw [rText_join]
  simp [textAll]
theorem rText_short {L : Lat} {code : List Instr} (hc : checkE L = 0) (h : ∀ x ∈ code, instrOk L.up.length x = true) (k : Nat) : (rText L (code.take k) 0 ⟨#[]⟩).size ≤ 29 * (code.take k).length := by
  rw [← data_length, rText_join]
  exact textAll_short hc (fun x hx => h x (List.mem_of_mem_take hx))
set_option maxRecDepth 100000 in
set_option maxHeartbeats 2000000 in
theorem rText_any {w : World} {An Au Ac : Option Addr} {cn cu cc : Nat} {L : Lat} {code : List Instr} (hL : LatAt w An cn Au cu L) (hc : kInstr.C w Ac code.length code) (hE : checkE L = 0) (hR : rightB L code = true) :
    Calls Tryd.prog 13 #[.agg #[.slice An L.names.length cn, .slice Au L.up.length cu], .slice Ac code.length cc] w fun e w' => e = .returned (.string (textAll L code)) ∧ Below w.heap.size w w' := by
  have hm := hc.2.1
  have h12 : code.length ≤ 12 := by unfold rightB at hR; simp only [Bool.and_eq_true, decide_eq_true_eq] at hR; exact hR.1.2
  have HOk : Hid (∀ x ∈ code, instrOk L.up.length x = true) := Lib.hid (by unfold rightB at hR; simp only [Bool.and_eq_true, List.all_eq_true] at hR; exact hR.2)
  have HL := Lib.hid hL
  have HC := Lib.hid hc
  have HE := Lib.hid hE
  have HNm := Lib.hid (may_names (check_may hE))
  generalize hWb : w.alloc (.cells #[.slice An L.names.length cn, .slice Au L.up.length cu] 25) = WB
  have HWB := Lib.hid hWb
  have HB0 := Lib.hid (show Below w.heap.size w WB by rw [← hWb]; exact below_new _)
  have hs0 : WB.heap.size = w.heap.size + 1 := by rw [← hWb]; simp
  have HS0 := Lib.hid hs0
  have HC0 := Lib.hid (show WB.cell? ⟨w.heap.size, 0, none⟩ = some (.slice An L.names.length cn) by rw [← hWb]; simp [go_sem])
  have HLB := Lib.hid (HL.out.below HB0.out)
  have HCB := Lib.hid (Kd.C_below HC.out HB0.out)
  clear hWb hs0 hL hc hE hR
  go_enter Tryd.func13, Tryd.ntmps13
  go_wp2
  rw [HWB.out]
  go_loopw [5, 10] (fun v i wr => ∃ k : Nat, k ≤ code.length ∧ i = .int .i64 k ∧ v = .string (rText L (code.take k) 0 ⟨#[]⟩) ∧ Below WB.heap.size WB wr) (fun _ i _ => code.length - (intOf i).toNat)
  case atStart => exact ⟨0, Nat.zero_le _, rfl, rfl, Below.refl _ _⟩
  case round =>
    obtain ⟨k, hk, rfl, rfl, hB⟩ := hrel
    have HB := Lib.hid hB
    clear hB
    by_cases hlt : k < code.length
    · obtain ⟨ad, rfl, t0, t1, t2, hblk⟩ := at_instr (Kd.C_below HCB.out HB.out) hlt
      have hok := HOk.out _ (nth_mem zInstr hlt)
      have hst : rText L (code.take (k + 1)) 0 ⟨#[]⟩ = rOne L (nth zInstr code k) (if 0 < k then rText L (code.take k) 0 ⟨#[]⟩ ++ ⟨#[32]⟩ else rText L (code.take k) 0 ⟨#[]⟩) := by
        rw [take_nth zInstr hlt, rText_snoc, List.length_take, Nat.min_eq_left hk, Nat.zero_add]
      have hsh := rText_short HE.out HOk.out k
      rw [List.length_take, Nat.min_eq_left hk] at hsh
      obtain ⟨x, hx⟩ : ∃ x, nth zInstr code k = x := ⟨_, rfl⟩
      rw [hx] at t0 t1 t2 hok hst
      obtain ⟨s, hs⟩ : ∃ s, s = rText L (code.take k) 0 ⟨#[]⟩ := ⟨_, rfl⟩
      rw [← hs] at hst hsh ⊢
      obtain ⟨q, hq⟩ : ∃ q, q = (if 0 < k then s ++ (⟨#[32]⟩ : ByteArray) else s) := ⟨_, rfl⟩
      have hqs : q.size ≤ 29 * k + 1 := by
        rw [hq]
        split
        · rw [ByteArray.size_append]; show _ + 1 ≤ _; omega
        · omega
      rw [← hq] at hst
      have HSt := Lib.hid hst
      have HQ := Lib.hid hq
      obtain ⟨ho0, ho13, hol⟩ := ok_op hok
      have hsp := ok_span hok
      clear hx hok hst hs hq
      have HNew := Lib.hid (below_step HB.out HB.out.size (below_new (w := wr) (.cells #[.int .i64 x.op, .int .i64 x.n, .int .i64 x.l] 51)))
      have hcat0 := cat_run s ⟨#[32]⟩ (by show _ + 1 ≤ _; omega)
      by_cases hk0 : 0 < k
      · have hkI : decide ((0 : Int) < (k : Int)) = true := decide_eq_true (by omega)
        have HQ' : q = s ++ (⟨#[32]⟩ : ByteArray) := by rw [HQ.out, if_pos hk0]
        go_wp2_with fail
        refine (rWord_any ho0 ho13 _).mono ?_
        rintro e u1 ⟨rfl, hb1⟩
        have y0 := (hb1.cell (p := ⟨wr.heap.size, 0, none⟩) (by simp)).trans (show _ = some (.int .i64 x.op) by simp [go_sem])
        have y1 := (hb1.cell (p := ⟨wr.heap.size, 1, none⟩) (by simp)).trans (show _ = some (.int .i64 x.n) by simp [go_sem])
        have y2 := (hb1.cell (p := ⟨wr.heap.size, 2, none⟩) (by simp)).trans (show _ = some (.int .i64 x.l) by simp [go_sem])
        have yl : wr.heap.size < u1.heap.size := Nat.lt_of_lt_of_le (by simp) hb1.size
        have HBu := Lib.hid (below_step HNew.out HNew.out.size hb1)
        have yn := (HBu.out.cell (p := ⟨w.heap.size, 0, none⟩) (by rw [HS0.out]; simp)).trans HC0.out
        have yw : w.heap.size < u1.heap.size := Nat.lt_of_lt_of_le (by rw [HS0.out]; omega) HBu.out.size
        have hz1 := word_short x.op.toNat
        clear hb1 t0 t1 t2 hblk
        cases hs : (spanOf x.op).isSome with
        | false =>
          have hop : x.op ≠ 1 := by intro e; rw [e] at hs; cases hs
          have HNu := Lib.hid (rNumber_any x.op)
          have HSg : Hid (∀ w : World, Calls Tryd.prog 38 #[.int .i64 x.op] w fun e w' => e = .returned (.bool (spanOf x.op).isSome) ∧ w = w') := HNu
          rw [hs] at HNu
          have hop1 : (x.op == 1) = false := by simpa using hop
          
          have HV : Hid (rText L (code.take (k + 1)) 0 ⟨#[]⟩ = s ++ (⟨#[32]⟩ : ByteArray) ++ wordAt x.op.toNat ++ (⟨#[32, 59]⟩ : ByteArray)) := Lib.hid (by rw [HSt.out, HQ', rOne]; simp only [hs, if_neg hop, Bool.false_eq_true, if_false])
          have hcat1 := cat_run (s ++ (⟨#[32]⟩ : ByteArray)) (wordAt x.op.toNat) (by (try simp only [ByteArray.size_append, show (⟨#[32]⟩ : ByteArray).size = 1 from rfl]); omega)
          have hcat2 := cat_run (s ++ (⟨#[32]⟩ : ByteArray) ++ wordAt x.op.toNat) (⟨#[32, 59]⟩ : ByteArray) (by (try simp only [ByteArray.size_append, show (⟨#[32]⟩ : ByteArray).size = 1 from rfl, show (⟨#[32, 59]⟩ : ByteArray).size = 2 from rfl]); omega)
          clear hs hsp hol hop HQ'
          go_wp2_with (first | (go_at_call 38; refine (HNu.out _).mono ?_; rintro e w4 ⟨rfl, rfl⟩) | (go_at_call 39; refine (HSg.out _).mono ?_; rintro e w4 ⟨rfl, rfl⟩))
          go_roundw
          case rel => exact ⟨k + 1, by omega, by go_num, by rw [HV.out], HBu.out⟩
          case measure => simp [intOf]; omega
        | true =>
          have hn1 := hsp hs
          have hz2 := signed_short x.n hn1.1 hn1.2
          have HNu := Lib.hid (rNumber_any x.op)
          rw [hs] at HNu
          have HSg := Lib.hid (rSigned_any x.n hn1.1 hn1.2)
          by_cases hop : x.op = 1
          · have hlb := hol hop
            have hop1 : (x.op == 1) = true := by simpa using hop
            have hnl := HNm.out
            have hlx : x.l.toNat < L.names.length := by omega
            obtain ⟨ad2, had2, hs2, hblk2⟩ := at_str (Kd.C_below HLB.out.names HBu.out) (k := x.l.toNat) hlx
            have hs2' : u1.cell? (ad2.add x.l.toNat) = some (.string (nameAt L x.l)) := hs2
            have hx1 : x.l < (L.names.length : Int) := by omega
            obtain ⟨hx0, -⟩ := hlb
            have hz3 := name_short HE.out x.l
            clear hs2 hnl
            subst had2
            
            have HV : Hid (rText L (code.take (k + 1)) 0 ⟨#[]⟩ = s ++ (⟨#[32]⟩ : ByteArray) ++ wordAt x.op.toNat ++ (⟨#[32]⟩ : ByteArray) ++ signedB x.n ++ (⟨#[32, 64, 32]⟩ : ByteArray) ++ nameAt L x.l ++ (⟨#[32, 59]⟩ : ByteArray)) := Lib.hid (by rw [HSt.out, HQ', rOne]; simp only [if_pos hs, if_pos hop])
            have hcat1 := cat_run (s ++ (⟨#[32]⟩ : ByteArray)) (wordAt x.op.toNat) (by (try simp only [ByteArray.size_append, show (⟨#[32]⟩ : ByteArray).size = 1 from rfl]); omega)
            have hcat2 := cat_run (s ++ (⟨#[32]⟩ : ByteArray) ++ wordAt x.op.toNat) (⟨#[32]⟩ : ByteArray) (by (try simp only [ByteArray.size_append, show (⟨#[32]⟩ : ByteArray).size = 1 from rfl]); omega)
            have hcat3 := cat_run (s ++ (⟨#[32]⟩ : ByteArray) ++ wordAt x.op.toNat ++ (⟨#[32]⟩ : ByteArray)) (signedB x.n) (by (try simp only [ByteArray.size_append, show (⟨#[32]⟩ : ByteArray).size = 1 from rfl]); omega)
            have hcat4 := cat_run (s ++ (⟨#[32]⟩ : ByteArray) ++ wordAt x.op.toNat ++ (⟨#[32]⟩ : ByteArray) ++ signedB x.n) (⟨#[32, 64, 32]⟩ : ByteArray) (by (try simp only [ByteArray.size_append, show (⟨#[32]⟩ : ByteArray).size = 1 from rfl, show (⟨#[32, 64, 32]⟩ : ByteArray).size = 3 from rfl]); omega)
            have hcat5 := cat_run (s ++ (⟨#[32]⟩ : ByteArray) ++ wordAt x.op.toNat ++ (⟨#[32]⟩ : ByteArray) ++ signedB x.n ++ (⟨#[32, 64, 32]⟩ : ByteArray)) (nameAt L x.l) (by (try simp only [ByteArray.size_append, show (⟨#[32]⟩ : ByteArray).size = 1 from rfl, show (⟨#[32, 64, 32]⟩ : ByteArray).size = 3 from rfl]); omega)
            have hcat6 := cat_run (s ++ (⟨#[32]⟩ : ByteArray) ++ wordAt x.op.toNat ++ (⟨#[32]⟩ : ByteArray) ++ signedB x.n ++ (⟨#[32, 64, 32]⟩ : ByteArray) ++ nameAt L x.l) (⟨#[32, 59]⟩ : ByteArray) (by (try simp only [ByteArray.size_append, show (⟨#[32]⟩ : ByteArray).size = 1 from rfl, show (⟨#[32, 64, 32]⟩ : ByteArray).size = 3 from rfl, show (⟨#[32, 59]⟩ : ByteArray).size = 2 from rfl]); omega)
            clear hs hsp hol hop HQ'
            go_wp2_with (first | (go_at_call 38; refine (HNu.out _).mono ?_; rintro e w4 ⟨rfl, rfl⟩) | (go_at_call 39; refine (HSg.out _).mono ?_; rintro e w4 ⟨rfl, rfl⟩))
            go_roundw
            case rel => exact ⟨k + 1, by omega, by go_num, by rw [HV.out], HBu.out⟩
            case measure => simp [intOf]; omega
          · have hop1 : (x.op == 1) = false := by simpa using hop
            
            have HV : Hid (rText L (code.take (k + 1)) 0 ⟨#[]⟩ = s ++ (⟨#[32]⟩ : ByteArray) ++ wordAt x.op.toNat ++ (⟨#[32]⟩ : ByteArray) ++ signedB x.n ++ (⟨#[32, 59]⟩ : ByteArray)) := Lib.hid (by rw [HSt.out, HQ', rOne]; simp only [if_pos hs, if_neg hop])
            have hcat1 := cat_run (s ++ (⟨#[32]⟩ : ByteArray)) (wordAt x.op.toNat) (by (try simp only [ByteArray.size_append, show (⟨#[32]⟩ : ByteArray).size = 1 from rfl]); omega)
            have hcat2 := cat_run (s ++ (⟨#[32]⟩ : ByteArray) ++ wordAt x.op.toNat) (⟨#[32]⟩ : ByteArray) (by (try simp only [ByteArray.size_append, show (⟨#[32]⟩ : ByteArray).size = 1 from rfl]); omega)
            have hcat3 := cat_run (s ++ (⟨#[32]⟩ : ByteArray) ++ wordAt x.op.toNat ++ (⟨#[32]⟩ : ByteArray)) (signedB x.n) (by (try simp only [ByteArray.size_append, show (⟨#[32]⟩ : ByteArray).size = 1 from rfl]); omega)
            have hcat4 := cat_run (s ++ (⟨#[32]⟩ : ByteArray) ++ wordAt x.op.toNat ++ (⟨#[32]⟩ : ByteArray) ++ signedB x.n) (⟨#[32, 59]⟩ : ByteArray) (by (try simp only [ByteArray.size_append, show (⟨#[32]⟩ : ByteArray).size = 1 from rfl, show (⟨#[32, 59]⟩ : ByteArray).size = 2 from rfl]); omega)
            clear hs hsp hol hop HQ'
            go_wp2_with (first | (go_at_call 38; refine (HNu.out _).mono ?_; rintro e w4 ⟨rfl, rfl⟩) | (go_at_call 39; refine (HSg.out _).mono ?_; rintro e w4 ⟨rfl, rfl⟩))
            go_roundw
            case rel => exact ⟨k + 1, by omega, by go_num, by rw [HV.out], HBu.out⟩
            case measure => simp [intOf]; omega
      · have hkI : decide ((0 : Int) < (k : Int)) = false := decide_eq_false (by omega)
        have HQ' : q = s := by rw [HQ.out, if_neg hk0]
        go_wp2_with fail
        refine (rWord_any ho0 ho13 _).mono ?_
        rintro e u1 ⟨rfl, hb1⟩
        have y0 := (hb1.cell (p := ⟨wr.heap.size, 0, none⟩) (by simp)).trans (show _ = some (.int .i64 x.op) by simp [go_sem])
        have y1 := (hb1.cell (p := ⟨wr.heap.size, 1, none⟩) (by simp)).trans (show _ = some (.int .i64 x.n) by simp [go_sem])
        have y2 := (hb1.cell (p := ⟨wr.heap.size, 2, none⟩) (by simp)).trans (show _ = some (.int .i64 x.l) by simp [go_sem])
        have yl : wr.heap.size < u1.heap.size := Nat.lt_of_lt_of_le (by simp) hb1.size
        have HBu := Lib.hid (below_step HNew.out HNew.out.size hb1)
        have yn := (HBu.out.cell (p := ⟨w.heap.size, 0, none⟩) (by rw [HS0.out]; simp)).trans HC0.out
        have yw : w.heap.size < u1.heap.size := Nat.lt_of_lt_of_le (by rw [HS0.out]; omega) HBu.out.size
        have hz1 := word_short x.op.toNat
        clear hb1 t0 t1 t2 hblk
        cases hs : (spanOf x.op).isSome with
        | false =>
          have hop : x.op ≠ 1 := by intro e; rw [e] at hs; cases hs
          have HNu := Lib.hid (rNumber_any x.op)
          have HSg : Hid (∀ w : World, Calls Tryd.prog 38 #[.int .i64 x.op] w fun e w' => e = .returned (.bool (spanOf x.op).isSome) ∧ w = w') := HNu
          rw [hs] at HNu
          have hop1 : (x.op == 1) = false := by simpa using hop
          
          have HV : Hid (rText L (code.take (k + 1)) 0 ⟨#[]⟩ = s ++ wordAt x.op.toNat ++ (⟨#[32, 59]⟩ : ByteArray)) := Lib.hid (by rw [HSt.out, HQ', rOne]; simp only [hs, if_neg hop, Bool.false_eq_true, if_false])
          have hcat1 := cat_run (s) (wordAt x.op.toNat) (by (try simp only [ByteArray.size_append, show (⟨#[32]⟩ : ByteArray).size = 1 from rfl, show (⟨#[32, 64, 32]⟩ : ByteArray).size = 3 from rfl, show (⟨#[32, 59]⟩ : ByteArray).size = 2 from rfl]); omega)
          have hcat2 := cat_run (s ++ wordAt x.op.toNat) (⟨#[32, 59]⟩ : ByteArray) (by (try simp only [ByteArray.size_append, show (⟨#[32, 59]⟩ : ByteArray).size = 2 from rfl]); omega)
          clear hs hsp hol hop HQ'
          go_wp2_with (first | (go_at_call 38; refine (HNu.out _).mono ?_; rintro e w4 ⟨rfl, rfl⟩) | (go_at_call 39; refine (HSg.out _).mono ?_; rintro e w4 ⟨rfl, rfl⟩))
          go_roundw
          case rel => exact ⟨k + 1, by omega, by go_num, by rw [HV.out], HBu.out⟩
          case measure => simp [intOf]; omega
        | true =>
          have hn1 := hsp hs
          have hz2 := signed_short x.n hn1.1 hn1.2
          have HNu := Lib.hid (rNumber_any x.op)
          rw [hs] at HNu
          have HSg := Lib.hid (rSigned_any x.n hn1.1 hn1.2)
          by_cases hop : x.op = 1
          · have hlb := hol hop
            have hop1 : (x.op == 1) = true := by simpa using hop
            have hnl := HNm.out
            have hlx : x.l.toNat < L.names.length := by omega
            obtain ⟨ad2, had2, hs2, hblk2⟩ := at_str (Kd.C_below HLB.out.names HBu.out) (k := x.l.toNat) hlx
            have hs2' : u1.cell? (ad2.add x.l.toNat) = some (.string (nameAt L x.l)) := hs2
            have hx1 : x.l < (L.names.length : Int) := by omega
            obtain ⟨hx0, -⟩ := hlb
            have hz3 := name_short HE.out x.l
            clear hs2 hnl
            subst had2
            
            have HV : Hid (rText L (code.take (k + 1)) 0 ⟨#[]⟩ = s ++ wordAt x.op.toNat ++ (⟨#[32]⟩ : ByteArray) ++ signedB x.n ++ (⟨#[32, 64, 32]⟩ : ByteArray) ++ nameAt L x.l ++ (⟨#[32, 59]⟩ : ByteArray)) := Lib.hid (by rw [HSt.out, HQ', rOne]; simp only [if_pos hs, if_pos hop])
            have hcat1 := cat_run (s) (wordAt x.op.toNat) (by (try simp only [ByteArray.size_append, show (⟨#[32]⟩ : ByteArray).size = 1 from rfl, show (⟨#[32, 64, 32]⟩ : ByteArray).size = 3 from rfl, show (⟨#[32, 59]⟩ : ByteArray).size = 2 from rfl]); omega)
            have hcat2 := cat_run (s ++ wordAt x.op.toNat) (⟨#[32]⟩ : ByteArray) (by (try simp only [ByteArray.size_append, show (⟨#[32]⟩ : ByteArray).size = 1 from rfl]); omega)
            have hcat3 := cat_run (s ++ wordAt x.op.toNat ++ (⟨#[32]⟩ : ByteArray)) (signedB x.n) (by (try simp only [ByteArray.size_append, show (⟨#[32]⟩ : ByteArray).size = 1 from rfl]); omega)
            have hcat4 := cat_run (s ++ wordAt x.op.toNat ++ (⟨#[32]⟩ : ByteArray) ++ signedB x.n) (⟨#[32, 64, 32]⟩ : ByteArray) (by (try simp only [ByteArray.size_append, show (⟨#[32]⟩ : ByteArray).size = 1 from rfl, show (⟨#[32, 64, 32]⟩ : ByteArray).size = 3 from rfl]); omega)
            have hcat5 := cat_run (s ++ wordAt x.op.toNat ++ (⟨#[32]⟩ : ByteArray) ++ signedB x.n ++ (⟨#[32, 64, 32]⟩ : ByteArray)) (nameAt L x.l) (by (try simp only [ByteArray.size_append, show (⟨#[32]⟩ : ByteArray).size = 1 from rfl, show (⟨#[32, 64, 32]⟩ : ByteArray).size = 3 from rfl]); omega)
            have hcat6 := cat_run (s ++ wordAt x.op.toNat ++ (⟨#[32]⟩ : ByteArray) ++ signedB x.n ++ (⟨#[32, 64, 32]⟩ : ByteArray) ++ nameAt L x.l) (⟨#[32, 59]⟩ : ByteArray) (by (try simp only [ByteArray.size_append, show (⟨#[32]⟩ : ByteArray).size = 1 from rfl, show (⟨#[32, 64, 32]⟩ : ByteArray).size = 3 from rfl, show (⟨#[32, 59]⟩ : ByteArray).size = 2 from rfl]); omega)
            clear hs hsp hol hop HQ'
            go_wp2_with (first | (go_at_call 38; refine (HNu.out _).mono ?_; rintro e w4 ⟨rfl, rfl⟩) | (go_at_call 39; refine (HSg.out _).mono ?_; rintro e w4 ⟨rfl, rfl⟩))
            go_roundw
            case rel => exact ⟨k + 1, by omega, by go_num, by rw [HV.out], HBu.out⟩
            case measure => simp [intOf]; omega
          · have hop1 : (x.op == 1) = false := by simpa using hop
            
            have HV : Hid (rText L (code.take (k + 1)) 0 ⟨#[]⟩ = s ++ wordAt x.op.toNat ++ (⟨#[32]⟩ : ByteArray) ++ signedB x.n ++ (⟨#[32, 59]⟩ : ByteArray)) := Lib.hid (by rw [HSt.out, HQ', rOne]; simp only [if_pos hs, if_neg hop])
            have hcat1 := cat_run (s) (wordAt x.op.toNat) (by (try simp only [ByteArray.size_append, show (⟨#[32]⟩ : ByteArray).size = 1 from rfl, show (⟨#[32, 64, 32]⟩ : ByteArray).size = 3 from rfl, show (⟨#[32, 59]⟩ : ByteArray).size = 2 from rfl]); omega)
            have hcat2 := cat_run (s ++ wordAt x.op.toNat) (⟨#[32]⟩ : ByteArray) (by (try simp only [ByteArray.size_append, show (⟨#[32]⟩ : ByteArray).size = 1 from rfl]); omega)
            have hcat3 := cat_run (s ++ wordAt x.op.toNat ++ (⟨#[32]⟩ : ByteArray)) (signedB x.n) (by (try simp only [ByteArray.size_append, show (⟨#[32]⟩ : ByteArray).size = 1 from rfl]); omega)
            have hcat4 := cat_run (s ++ wordAt x.op.toNat ++ (⟨#[32]⟩ : ByteArray) ++ signedB x.n) (⟨#[32, 59]⟩ : ByteArray) (by (try simp only [ByteArray.size_append, show (⟨#[32]⟩ : ByteArray).size = 1 from rfl, show (⟨#[32, 59]⟩ : ByteArray).size = 2 from rfl]); omega)
            clear hs hsp hol hop HQ'
            go_wp2_with (first | (go_at_call 38; refine (HNu.out _).mono ?_; rintro e w4 ⟨rfl, rfl⟩) | (go_at_call 39; refine (HSg.out _).mono ?_; rintro e w4 ⟨rfl, rfl⟩))
            go_roundw
            case rel => exact ⟨k + 1, by omega, by go_num, by rw [HV.out], HBu.out⟩
            case measure => simp [intOf]; omega
    · have hke : k = code.length := by omega
      subst hke
      have HT := Lib.hid (show rText L (code.take code.length) 0 ⟨#[]⟩ = textAll L code by rw [List.take_length, rText_all])
      go_wp2
      go_ret
      exact ⟨ret_str HT.out, below_le (HB0.out.trans (below_le HB.out (by rw [HS0.out]; omega))) (Nat.le_refl _)⟩
end Go.Proofs.YtmcafcgbbhcjhaaDoor
