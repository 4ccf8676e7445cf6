/- code: Text. -/
import Derived.Test.YtmcafcgbbhcjhaaDoorCodO
namespace Go.Proofs.YtmcafcgbbhcjhaaDoor
open Go.RowKit Go.Shelf Go.Proofs.YtmcafcgbbhcjhaaDoorW.PrintWords
attribute [local go_sem] Oper.semAt_some

def nameAt (L : Lat) (i : Int) : ByteArray := nth ByteArray.empty L.names i.toNat
/-- An instruction's text. -/
def textNum (x : Instr) : ByteArray := if (spanOf x.op).isSome = true then wordAt x.op.toNat ++ ((⟨#[32]⟩ : ByteArray) ++ signedB x.n) else wordAt x.op.toNat
def textLab (L : Lat) (x : Instr) : ByteArray := if x.op = 1 then textNum x ++ ((⟨#[32, 64, 32]⟩ : ByteArray) ++ nameAt L x.l) else textNum x
def textOne (L : Lat) (x : Instr) : ByteArray := textLab L x ++ ⟨#[32, 59]⟩
def textAll (L : Lat) (code : List Instr) : ByteArray := ⟨(Lib.join ((code.map (textOne L)).map (·.data.toList)) [32]).toArray⟩
def textV (L : Lat) (code : List Instr) : ByteArray := if checkE L = 0 then (if rightB L code = true then textAll L code else ⟨#[]⟩) else ⟨#[]⟩
def textE (L : Lat) (code : List Instr) : Int := if checkE L = 0 then (if rightB L code = true then 0 else 1) else checkE L
def sR (x : ByteArray) (cs : List Value) : Prop := cs = [.string x]
theorem word_short (k : Nat) : (wordAt k).size ≤ 6 := by
  by_cases h : k < 13
  · have : ∀ k, k < 13 → (wordAt k).size ≤ 6 := by decide
    exact this k h
  · have : wordAt k = ByteArray.empty := by
      unfold wordAt nth
      rw [List.getD_eq_getElem?_getD, List.getElem?_eq_none (by show 13 ≤ k; omega)]
      rfl
    rw [this]
    decide
theorem signed_short (n : Int) (h0 : -100 < n) (h1 : n < 100) : (signedB n).size ≤ 4 := by
  unfold signedB
  split
  · have := dec_short (-n).toNat (by omega)
    rw [ByteArray.size_append]
    show 2 + (Lib.decDigits (-n).toNat).toArray.size ≤ 4
    rw [List.size_toArray]
    omega
  · have := dec_short n.toNat (by omega)
    show (Lib.decDigits n.toNat).toArray.size ≤ 4
    rw [List.size_toArray]
    omega
theorem check_may {L : Lat} (h : checkE L = 0) : mayB L = true := by
  unfold checkE at h
  by_cases hm : mayB L = true
  · exact hm
  · rw [if_neg hm] at h; cases h
theorem may_names {L : Lat} (h : mayB L = true) : L.names.length = L.up.length := by
  unfold mayB at h
  simp only [Bool.and_eq_true, decide_eq_true_eq] at h
  exact h.1.2
theorem name_short {L : Lat} (h : checkE L = 0) (i : Int) : (nameAt L i).size ≤ 12 := by
  have hm := check_may h
  by_cases hi : i.toNat < L.names.length
  · unfold mayB at hm
    simp only [Bool.and_eq_true, decide_eq_true_eq, List.all_eq_true, List.mem_range] at hm
    have := hm.2 i.toNat hi
    unfold okAt nameOk at this
    simp only [Bool.and_eq_true, decide_eq_true_eq] at this
    exact this.1.1.2
  · have : nameAt L i = ByteArray.empty := by
      unfold nameAt nth
      rw [List.getD_eq_getElem?_getD, List.getElem?_eq_none (by omega)]
      rfl
    rw [this]
    decide
theorem textNum_short {x : Instr} (h : (spanOf x.op).isSome = true → -100 < x.n ∧ x.n < 100) : (textNum x).size ≤ 11 := by
  have hw := word_short x.op.toNat
  unfold textNum
  split
  · rename_i hs
    have := signed_short x.n (h hs).1 (h hs).2
    rw [ByteArray.size_append, ByteArray.size_append]
    have : (⟨#[32]⟩ : ByteArray).size = 1 := rfl
    omega
  · omega
theorem textLab_short {L : Lat} {x : Instr} (hc : checkE L = 0) (h : (spanOf x.op).isSome = true → -100 < x.n ∧ x.n < 100) : (textLab L x).size ≤ 26 := by
  have hw := textNum_short h
  unfold textLab
  split
  · have := name_short hc x.l
    rw [ByteArray.size_append, ByteArray.size_append]
    have : (⟨#[32, 64, 32]⟩ : ByteArray).size = 3 := rfl
    omega
  · omega
theorem ok_span {m : Int} {x : Instr} (h : instrOk m x = true) : (spanOf x.op).isSome = true → -100 < x.n ∧ x.n < 100 := by
  intro hs
  unfold instrOk fitsB at h
  simp only [Bool.and_eq_true] at h
  have h2 := h.1.2
  unfold spanOf at h2 hs
  split at h2
  · rename_i lo hi e
    simp only [Bool.and_eq_true, decide_eq_true_eq] at h2
    split at e
    · cases e; omega
    split at e
    · cases e; omega
    split at e
    · cases e; omega
    split at e
    · cases e; omega
    · cases e
  · rename_i e
    rw [e] at hs
    cases hs
theorem OwnRow.next {α : Type} {R : α → List Value → Prop} {e size base : Nat} {w w' : World} {v : Value} {ps : List α} (h : OwnRow R e size w base v ps) (hb : Below w.heap.size w w') : OwnRow R e size w' base v ps := by
  obtain ⟨inner, ho, hr⟩ := h
  exact ⟨inner, pw_own_below ho hb, hr⟩
theorem own_strs {w : World} {base n c : Nat} {A : Option Addr} {xs : List ByteArray} (h : OwnRow sR 9 1 w base (.slice A n c) xs) (hp : 0 < xs.length) :
    ∃ g, A = some ⟨g, 0, none⟩ ∧ g < w.heap.size ∧ n = xs.length ∧ n ≤ c ∧ ∀ j x, xs[j]? = some x → w.cell? ⟨g, 0 + j, none⟩ = some (.string x) := by
  obtain ⟨inner, ho, hr⟩ := h
  have hle := own_le ho
  rcases ho.2 with ⟨_, h0⟩ | ⟨g, cap, cur, hv, hg, hh, _⟩
  · omega
  · obtain ⟨A2, c2, hv2, hrow⟩ := own_reads_row (n := xs.length) ho hr rfl
    have hv3 := hv2
    rw [hv] at hv3
    cases hv3
    cases hv
    refine ⟨g, rfl, (Array.getElem?_eq_some_iff.1 hh).1, rfl, hle, fun j x hj => ?_⟩
    obtain ⟨ad, e, hc⟩ := hrow.2.2 hp
    cases e
    obtain ⟨cs, hs, hR, hcell⟩ := hc j x hj
    have := hcell 0 (.string x) (by rw [hR]; rfl)
    rw [add_plain] at this
    simpa using this
theorem lens_le {n : Nat} : ∀ (xs : List (List UInt8)), (∀ x ∈ xs, x.length ≤ n) → Lib.lens xs ≤ n * xs.length
  | [], _ => by simp [Lib.lens]
  | x :: xs, h => by
    have h1 := h x (.head _)
    have h2 := lens_le xs (fun y hy => h y (.tail _ hy))
    simp only [Lib.lens, List.map_cons, List.sum_cons] at h2 ⊢
    rw [List.length_cons, Nat.mul_add, Nat.mul_one]
    omega
theorem join_le {n : Nat} (xs : List (List UInt8)) (h : ∀ x ∈ xs, x.length ≤ n) : (Lib.join xs [32]).length ≤ (n + 1) * xs.length := by
  cases xs with
  | nil => simp [Lib.join_nil]
  | cons x r =>
    rw [Lib.join_length]
    have := lens_le _ h
    rw [List.length_cons] at this ⊢
    simp only [List.length_cons, List.length_nil]
    have e1 : (n + 1) * (r.length + 1) = n * (r.length + 1) + (r.length + 1) := by rw [Nat.add_mul, Nat.one_mul]
    omega
theorem textOne_short {L : Lat} {x : Instr} (hc : checkE L = 0) (h : (spanOf x.op).isSome = true → -100 < x.n ∧ x.n < 100) : (textOne L x).size ≤ 28 := by
  have := textLab_short hc h
  rw [textOne, ByteArray.size_append]
  show _ + 2 ≤ 28
  omega
theorem textAll_short {L : Lat} {code : List Instr} (hc : checkE L = 0) (h : ∀ x ∈ code, instrOk L.up.length x = true) : (Lib.join ((code.map (textOne L)).map (·.data.toList)) [32]).length ≤ 29 * code.length := by
  have := join_le (n := 28) ((code.map (textOne L)).map (·.data.toList)) (by
    intro y hy
    simp only [List.mem_map] at hy
    obtain ⟨z, ⟨x, hx, rfl⟩, rfl⟩ := hy
    rw [data_length]
    exact textOne_short hc (ok_span (h x hx)))
  simpa using this
theorem ok_op {m : Int} {x : Instr} (h : instrOk m x = true) : 0 ≤ x.op ∧ x.op < 13 ∧ (x.op = 1 → 0 ≤ x.l ∧ x.l < m) := by
  unfold instrOk at h
  simp only [Bool.and_eq_true, decide_eq_true_eq] at h
  refine ⟨h.1.1.1, h.1.1.2, fun e => ?_⟩
  have := h.2
  rw [if_pos e] at this
  simpa using this
set_option maxRecDepth 100000 in
set_option maxHeartbeats 2000000 in
theorem text_ok {w : World} {An Au Ac : Option Addr} {cn cu cc : Nat} {L : Lat} {code : List Instr} (hW : WordsAt w) (hL : LatAt w An cn Au cu L) (hc : kInstr.C w Ac code.length code) (hE : checkE L = 0) (hR : rightB L code = true) :
    Calls Tryd.prog 6 #[.agg #[.slice An L.names.length cn, .slice Au L.up.length cu], .slice Ac code.length cc] w fun e w' => e = .returned (.tuple #[.string (textAll L code), .int .i64 0]) ∧ Below w.heap.size w w' := by
  have hm := hc.2.1
  have h12 : code.length ≤ 12 := by unfold rightB at hR; simp only [Bool.and_eq_true, decide_eq_true_eq] at hR; exact hR.1.2
  have HOk : Hid (∀ x ∈ code, instrOk L.up.length x = true) := Lib.hid (by unfold rightB at hR; simp only [Bool.and_eq_true, List.all_eq_true] at hR; exact hR.2)
  have HL := Lib.hid hL
  have HC := Lib.hid hc
  have HE := Lib.hid hE
  have HR := Lib.hid hR
  have HNm := Lib.hid (may_names (check_may hE))
  generalize hWb : w.alloc (.cells #[.slice An L.names.length cn, .slice Au L.up.length cu] 25) = WB
  have HWB := Lib.hid hWb
  have HB0 := Lib.hid (show Below w.heap.size w WB by rw [← hWb]; exact below_new _)
  have hs0 : WB.heap.size = w.heap.size + 1 := by rw [← hWb]; simp
  have HS0 := Lib.hid hs0
  have HC0 := Lib.hid (show WB.cell? ⟨w.heap.size, 0, none⟩ = some (.slice An L.names.length cn) by rw [← hWb]; simp [go_sem])
  have HC1 := Lib.hid (show WB.cell? ⟨w.heap.size, 1, none⟩ = some (.slice Au L.up.length cu) by rw [← hWb]; simp [go_sem])
  have HLB := Lib.hid (HL.out.below HB0.out)
  have HCB := Lib.hid (Kd.C_below HC.out HB0.out)
  have HWd := Lib.hid (hW.next HB0.out)
  clear hWb hs0 hL hc hE hR hW
  go_enter Tryd.func6, Tryd.ntmps6
  go_wp2_with fail
  rw [HWB.out]
  refine (check_any HLB.out).mono ?_
  rintro e w1 ⟨rfl, hb1⟩
  rw [HE.out]
  have HB1 := Lib.hid hb1
  have hc0 := (hb1.cell (p := ⟨w.heap.size, 0, none⟩) (by rw [HS0.out]; simp)).trans HC0.out
  have hc1 := (hb1.cell (p := ⟨w.heap.size, 1, none⟩) (by rw [HS0.out]; simp)).trans HC1.out
  clear hb1
  go_wp2_with fail
  refine (Right_any (cc := cc) (HLB.out.below HB1.out) (Kd.C_below HCB.out HB1.out)).mono ?_
  rintro e w2 ⟨rfl, hb2⟩
  rw [HR.out]
  have HB2 := Lib.hid (below_step HB1.out HB1.out.size hb2)
  clear hb2 hc0 hc1
  go_wp2
  go_loopw [7, 23] (fun v i wr => ∃ k : Nat, k ≤ code.length ∧ i = .int .i64 k ∧ OwnRow sR 9 1 wr WB.heap.size v ((code.take k).map (textOne L)) ∧ Below WB.heap.size WB wr) (fun _ i _ => code.length - (intOf i).toNat)
  case atStart => exact ⟨0, Nat.zero_le _, rfl, ⟨[], own_nil _ _ _ _, Reps.none _ _⟩, HB2.out⟩
  case round =>
    obtain ⟨k, hk, rfl, ho, hB⟩ := hrel
    obtain ⟨A', c', hv, hcap⟩ := ho.slice_
    have hln : ((code.take k).map (textOne L)).length = k := by rw [List.length_map, List.length_take, Nat.min_eq_left hk]
    rw [hln] at hv hcap
    subst hv
    have HLn := Lib.hid hln
    clear hln
    have HO := Lib.hid ho
    have HB := Lib.hid hB
    clear ho hB
    by_cases hlt : k < code.length
    · obtain ⟨ad, rfl, t0, t1, t2, hblk⟩ := at_instr (Kd.C_below HCB.out (below_le (below_step (Below.refl _ _) (Nat.le_refl _) HB.out) (Nat.le_refl _))) hlt
      have hxm : nth zInstr code k ∈ code := nth_mem zInstr hlt
      have hok := HOk.out _ hxm
      have htk : (code.take (k + 1)).map (textOne L) = (code.take k).map (textOne L) ++ [textOne L (nth zInstr code k)] := by rw [take_nth zInstr hlt, List.map_append]; rfl
      obtain ⟨x, hx⟩ : ∃ x, nth zInstr code k = x := ⟨_, rfl⟩
      rw [hx] at t0 t1 t2 hok htk
      have HTk := Lib.hid htk
      obtain ⟨ho0, ho13, hol⟩ := ok_op hok
      have hsp := ok_span hok
      clear hxm htk hx hok
      have HA := Lib.hid (below_new (w := wr) (.cells #[.int .i64 x.op, .int .i64 x.n, .int .i64 x.l] 51))
      have HBA := Lib.hid (below_step HB.out HB.out.size HA.out)
      have HNm1 := Lib.hid (Name_in (HWd.out.next HBA.out) ho0 ho13)
      go_wp2_with (go_at_call 24; refine HNm1.out.mono ?_; rintro e w3 ⟨rfl, rfl⟩)
      refine (number_any x.op _).mono ?_
      rintro e u1 ⟨rfl, hb1⟩
      have y0 := (hb1.cell (p := ⟨wr.heap.size, 0, none⟩) (by simp)).trans (show _ = some (.int .i64 x.op) by simp [go_sem])
      have y1 := (hb1.cell (p := ⟨wr.heap.size, 1, none⟩) (by simp)).trans (show _ = some (.int .i64 x.n) by simp [go_sem])
      have y2 := (hb1.cell (p := ⟨wr.heap.size, 2, none⟩) (by simp)).trans (show _ = some (.int .i64 x.l) by simp [go_sem])
      have yl : wr.heap.size < u1.heap.size := Nat.lt_of_lt_of_le (by simp) hb1.size
      have HBu := Lib.hid (below_step HBA.out HBA.out.size hb1)
      have HO1 := Lib.hid (OwnRow.next (OwnRow.next HO.out HA.out) hb1)
      have yn := (HBu.out.cell (p := ⟨w.heap.size, 0, none⟩) (by rw [HS0.out]; simp)).trans HC0.out
      have yw : w.heap.size < u1.heap.size := Nat.lt_of_lt_of_le (by rw [HS0.out]; omega) HBu.out.size
      clear hb1 t0 t1 t2 hblk
      cases hs : (spanOf x.op).isSome with
      | false =>
        have hop : x.op ≠ 1 := by intro e; rw [e] at hs; cases hs
        have HTx : Hid (textOne L x = wordAt x.op.toNat ++ ⟨#[32, 59]⟩) := Lib.hid (by
          have hn : textNum x = wordAt x.op.toNat := by unfold textNum; rw [hs]; rfl
          rw [textOne, textLab, if_neg hop, hn])
        have hcat := cat_run (wordAt x.op.toNat) ⟨#[32, 59]⟩ (by have := word_short x.op.toNat; show _ + 2 ≤ _; omega)
        have hop1 : (x.op == 1) = false := by simpa using hop
        clear hs hsp hol
        go_wp2_with (at_builtin; refine OwnRow.append (w0 := WB) (R := sR) WB.heap.size rfl _ _ 22 9 (.string ⟨#[]⟩) 1 16 rfl Tryd.underlying22 (by kernel_rfl) rfl (by decide) (by decide) (.slice A' k c') ((code.take k).map (textOne L)) (textOne L x) [.string (wordAt x.op.toNat ++ (⟨#[32, 59]⟩ : ByteArray))] rfl rfl (by rw [sR, HTx.out]) rfl (by intro u hu; simp only [List.mem_cons, List.not_mem_nil, or_false] at hu; subst hu; rfl) HO1.out HBu.out HBu.out.size (by rw [HLn.out]; omega) ?_; intro v1 w5 ho5 hb5 hg5 hat5; obtain ⟨A1, c1, hv1, -⟩ := ho5.slice_; rw [List.length_append, HLn.out, List.length_singleton] at hv1; subst hv1)
        go_roundw
        case rel => exact ⟨k + 1, by omega, by go_num, by rw [HTk.out]; exact ho5, hb5⟩
        case measure => simp [intOf]; omega
      | true =>
        have hn1 := hsp hs
        have hn : textNum x = wordAt x.op.toNat ++ ((⟨#[32]⟩ : ByteArray) ++ signedB x.n) := by unfold textNum; rw [if_pos hs]
        by_cases hop : x.op = 1
        · have hlb := hol hop
          have HTx : Hid (textOne L x = wordAt x.op.toNat ++ ((⟨#[32]⟩ : ByteArray) ++ signedB x.n) ++ ((⟨#[32, 64, 32]⟩ : ByteArray) ++ nameAt L x.l) ++ ⟨#[32, 59]⟩) := Lib.hid (by rw [textOne, textLab, if_pos hop, hn])
          have hop1 : (x.op == 1) = true := by simpa using hop
          have hnl := HNm.out
          have hlx : x.l.toNat < L.names.length := by omega
          obtain ⟨ad2, had2, hs2, hblk2⟩ := at_str (Kd.C_below HLB.out.names HBu.out) (k := x.l.toNat) hlx
          have hs2' : u1.cell? (ad2.add x.l.toNat) = some (.string (nameAt L x.l)) := hs2
          have hx1 : x.l < (L.names.length : Int) := by omega
          obtain ⟨hx0, -⟩ := hlb
          clear hs hsp hol hn hs2 hnl
          subst had2
          have HSg := Lib.hid (signed_any x.n hn1.1 hn1.2)
          have hz1 := word_short x.op.toNat
          have hz2 := signed_short x.n hn1.1 hn1.2
          have hcat1 := cat_run ⟨#[32]⟩ (signedB x.n) (by show 1 + _ ≤ _; omega)
          have hcat2 := cat_run (wordAt x.op.toNat) ((⟨#[32]⟩ : ByteArray) ++ signedB x.n) (by rw [ByteArray.size_append]; show _ + (1 + _) ≤ _; omega)
          have hz3 := name_short HE.out x.l
          have hcat3 := cat_run ⟨#[32, 64, 32]⟩ (nameAt L x.l) (by show 3 + _ ≤ _; omega)
          have hcat4 := cat_run (wordAt x.op.toNat ++ ((⟨#[32]⟩ : ByteArray) ++ signedB x.n)) ((⟨#[32, 64, 32]⟩ : ByteArray) ++ nameAt L x.l) (by rw [ByteArray.size_append, ByteArray.size_append, ByteArray.size_append]; show _ + (1 + _) + (3 + _) ≤ _; omega)
          have hcat5 := cat_run (wordAt x.op.toNat ++ ((⟨#[32]⟩ : ByteArray) ++ signedB x.n) ++ ((⟨#[32, 64, 32]⟩ : ByteArray) ++ nameAt L x.l)) ⟨#[32, 59]⟩ (by rw [ByteArray.size_append, ByteArray.size_append, ByteArray.size_append, ByteArray.size_append]; show _ + (1 + _) + (3 + _) + 2 ≤ _; omega)
          clear hop
          go_wp2_with (first | (at_builtin; refine OwnRow.append (w0 := WB) (R := sR) WB.heap.size rfl _ _ 22 9 (.string ⟨#[]⟩) 1 16 rfl Tryd.underlying22 (by kernel_rfl) rfl (by decide) (by decide) (.slice A' k c') ((code.take k).map (textOne L)) (textOne L x) [.string (wordAt x.op.toNat ++ ((⟨#[32]⟩ : ByteArray) ++ signedB x.n) ++ ((⟨#[32, 64, 32]⟩ : ByteArray) ++ nameAt L x.l) ++ (⟨#[32, 59]⟩ : ByteArray))] rfl rfl (by rw [sR, HTx.out]) rfl (by intro u hu; simp only [List.mem_cons, List.not_mem_nil, or_false] at hu; subst hu; rfl) HO1.out HBu.out HBu.out.size (by rw [HLn.out]; omega) ?_; intro v1 w5 ho5 hb5 hg5 hat5; obtain ⟨A1, c1, hv1, -⟩ := ho5.slice_; rw [List.length_append, HLn.out, List.length_singleton] at hv1; subst hv1) | (go_at_call 26; refine (HSg.out _).mono ?_; rintro e w4 ⟨rfl, rfl⟩))
          go_roundw
          case rel => exact ⟨k + 1, by omega, by go_num, by rw [HTk.out]; exact ho5, hb5⟩
          case measure => simp [intOf]; omega
        · have HTx : Hid (textOne L x = wordAt x.op.toNat ++ ((⟨#[32]⟩ : ByteArray) ++ signedB x.n) ++ ⟨#[32, 59]⟩) := Lib.hid (by rw [textOne, textLab, if_neg hop, hn])
          have hop1 : (x.op == 1) = false := by simpa using hop
          clear hs hsp hol hn
          have HSg := Lib.hid (signed_any x.n hn1.1 hn1.2)
          have hz1 := word_short x.op.toNat
          have hz2 := signed_short x.n hn1.1 hn1.2
          have hcat1 := cat_run ⟨#[32]⟩ (signedB x.n) (by show 1 + _ ≤ _; omega)
          have hcat2 := cat_run (wordAt x.op.toNat) ((⟨#[32]⟩ : ByteArray) ++ signedB x.n) (by rw [ByteArray.size_append]; show _ + (1 + _) ≤ _; omega)
          have hcat5 := cat_run (wordAt x.op.toNat ++ ((⟨#[32]⟩ : ByteArray) ++ signedB x.n)) ⟨#[32, 59]⟩ (by rw [ByteArray.size_append, ByteArray.size_append]; show _ + (1 + _) + 2 ≤ _; omega)
          clear hop
          go_wp2_with (first | (at_builtin; refine OwnRow.append (w0 := WB) (R := sR) WB.heap.size rfl _ _ 22 9 (.string ⟨#[]⟩) 1 16 rfl Tryd.underlying22 (by kernel_rfl) rfl (by decide) (by decide) (.slice A' k c') ((code.take k).map (textOne L)) (textOne L x) [.string (wordAt x.op.toNat ++ ((⟨#[32]⟩ : ByteArray) ++ signedB x.n) ++ (⟨#[32, 59]⟩ : ByteArray))] rfl rfl (by rw [sR, HTx.out]) rfl (by intro u hu; simp only [List.mem_cons, List.not_mem_nil, or_false] at hu; subst hu; rfl) HO1.out HBu.out HBu.out.size (by rw [HLn.out]; omega) ?_; intro v1 w5 ho5 hb5 hg5 hat5; obtain ⟨A1, c1, hv1, -⟩ := ho5.slice_; rw [List.length_append, HLn.out, List.length_singleton] at hv1; subst hv1) | (go_at_call 26; refine (HSg.out _).mono ?_; rintro e w4 ⟨rfl, rfl⟩))
          go_roundw
          case rel => exact ⟨k + 1, by omega, by go_num, by rw [HTk.out]; exact ho5, hb5⟩
          case measure => simp [intOf]; omega
    · have hke : k = code.length := by omega
      subst hke
      have hte : code.take code.length = code := List.take_length
      have ho := HO.out
      rw [hte] at ho
      have HV := Lib.hid (show textAll L code = ⟨(Lib.join ((code.map (textOne L)).map (·.data.toList)) (⟨#[32]⟩ : ByteArray).data.toList).toArray⟩ from rfl)
      have HBw := Lib.hid (below_le (HB0.out.trans (below_le HB.out (by rw [HS0.out]; omega))) (Nat.le_refl _))
      have hll : (code.map (textOne L)).length = code.length := List.length_map _
      clear hte
      by_cases h0 : code.length = 0
      · have hnil : code = [] := List.length_eq_zero_iff.1 h0
        have HT0 := Lib.hid (show textAll L code = ⟨#[]⟩ by rw [hnil]; rfl)
        have HJ := Lib.hid (Tryd.strings_Join_none A' c' ⟨#[32]⟩)
        clear hnil
        go_wp2_with fail
        refine (HJ.out _).mono ?_
        rintro e w5 ⟨rfl, rfl⟩
        go_wp2
        go_ret2
        exact ⟨by rw [HT0.out]; rfl, HBw.out⟩
      · obtain ⟨g, rfl, hg, hgn, hgc, hcells⟩ := own_strs ho (by rw [hll]; omega)
        have HJ := Lib.hid (Tryd.strings_Join g 0 c' (code.map (textOne L)) ⟨#[32]⟩ wr hcells hg (by rw [hll]; omega) (by rw [← hgn]; exact hgc) (Nat.le_trans (textAll_short HE.out HOk.out) (by omega)))
        rw [hll] at HJ
        clear hcells ho hgn
        go_wp2_with fail
        refine HJ.out.mono ?_
        rintro e w5 ⟨rfl, hb5⟩
        have HB5 := Lib.hid (below_step HBw.out HBw.out.size hb5)
        clear hb5
        go_wp2
        go_ret2
        exact ⟨by rw [textAll, List.map_map]; rfl, HB5.out⟩
set_option maxRecDepth 100000 in
theorem text_any {w : World} {An Au Ac : Option Addr} {cn cu cc : Nat} {L : Lat} {code : List Instr} (hW : WordsAt w) (hL : LatAt w An cn Au cu L) (hc : kInstr.C w Ac code.length code) :
    Calls Tryd.prog 6 #[.agg #[.slice An L.names.length cn, .slice Au L.up.length cu], .slice Ac code.length cc] w fun e w' => e = .returned (.tuple #[.string (textV L code), .int .i64 (textE L code)]) ∧ Below w.heap.size w w' := by
  by_cases hE : checkE L = 0
  · by_cases hR : rightB L code = true
    · rw [textV, textE, if_pos hE, if_pos hE, if_pos hR, if_pos hR]
      exact text_ok hW hL hc hE hR
    · rw [textV, textE, if_pos hE, if_pos hE, if_neg hR, if_neg hR]
      have HL := Lib.hid hL
      have HC := Lib.hid hc
      have HE := Lib.hid hE
      have HR := Lib.hid (show rightB L code = false by simpa using hR)
      generalize hWb : w.alloc (.cells #[.slice An L.names.length cn, .slice Au L.up.length cu] 25) = WB
      have HWB := Lib.hid hWb
      have HB0 := Lib.hid (show Below w.heap.size w WB by rw [← hWb]; exact below_new _)
      have hs0 : WB.heap.size = w.heap.size + 1 := by rw [← hWb]; simp
      have HS0 := Lib.hid hs0
      have HC0 := Lib.hid (show WB.cell? ⟨w.heap.size, 0, none⟩ = some (.slice An L.names.length cn) by rw [← hWb]; simp [go_sem])
      have HC1 := Lib.hid (show WB.cell? ⟨w.heap.size, 1, none⟩ = some (.slice Au L.up.length cu) by rw [← hWb]; simp [go_sem])
      have HLB := Lib.hid (HL.out.below HB0.out)
      have HCB := Lib.hid (Kd.C_below HC.out HB0.out)
      clear hWb hs0 hL hc hE hR hW
      go_enter Tryd.func6, Tryd.ntmps6
      go_wp2_with fail
      rw [HWB.out]
      refine (check_any HLB.out).mono ?_
      rintro e w1 ⟨rfl, hb1⟩
      rw [HE.out]
      have HB1 := Lib.hid hb1
      have hc0 := (hb1.cell (p := ⟨w.heap.size, 0, none⟩) (by rw [HS0.out]; simp)).trans HC0.out
      have hc1 := (hb1.cell (p := ⟨w.heap.size, 1, none⟩) (by rw [HS0.out]; simp)).trans HC1.out
      clear hb1
      go_wp2_with fail
      refine (Right_any (cc := cc) (HLB.out.below HB1.out) (Kd.C_below HCB.out HB1.out)).mono ?_
      rintro e w2 ⟨rfl, hb2⟩
      rw [HR.out]
      have HB2 := Lib.hid (below_step HB0.out HB0.out.size (below_step HB1.out HB1.out.size hb2))
      clear hb2 hc0 hc1
      go_wp2
      go_ret2
      exact ⟨rfl, HB2.out⟩
  · rw [textV, textE, if_neg hE, if_neg hE]
    have HL := Lib.hid hL
    have hE' : (checkE L != 0) = true := by simpa using hE
    have HB0 := Lib.hid (below_new (w := w) (.cells #[.slice An L.names.length cn, .slice Au L.up.length cu] 25))
    clear hL hc hE hW
    go_enter Tryd.func6, Tryd.ntmps6
    go_wp2_with fail
    refine (check_any (HL.out.below HB0.out)).mono ?_
    rintro e w1 ⟨rfl, hb1⟩
    have HB1 := Lib.hid (below_step HB0.out HB0.out.size hb1)
    clear hb1
    go_wp2
    go_ret2
    exact ⟨rfl, HB1.out⟩
end Go.Proofs.YtmcafcgbbhcjhaaDoor
