/- lattice: which orders may be. -/
import Derived.Test.YtmcafcgbbhcjhaaDoorLatA
namespace Go.Proofs.YtmcafcgbbhcjhaaDoor
open Go.RowKit Go.Proofs.YtmcafcgbbhcjhaaDoorW.PrintWords

theorem take_snocB (s : ByteArray) (k : Nat) (h : k < s.size) : s.data.toList.take (k + 1) = s.data.toList.take k ++ [s[k]] := by
  rw [List.take_succ_eq_append_getElem (by simpa using h)]; rfl
def lowerB (c : UInt8) : Bool := decide (97 ≤ c.toNat) && decide (c.toNat ≤ 122)
def nameOk (s : ByteArray) : Bool := s.data.toList.all lowerB && decide (s ≠ ByteArray.empty) && decide (s.size ≤ 12)
theorem name_no {s : ByteArray} {k : Nat} (hk : k < s.size) (h : (s[k].toNat : Int) < 97 ∨ 122 < (s[k].toNat : Int)) : nameOk s = false := by
  have hm : s[k] ∈ s.data.toList := by
    have := Array.getElem_mem (xs := s.data) (i := k) (by simpa using hk)
    exact Array.mem_toList_iff.2 this
  have hl : lowerB s[k] = false := by unfold lowerB; rcases h with h | h <;> simp <;> omega
  unfold nameOk
  have : s.data.toList.all lowerB = false := by
    rw [List.all_eq_false]; exact ⟨_, hm, by simp [hl]⟩
  simp [this]
theorem ba_ext {s t : ByteArray} (h : s.data.toList = t.data.toList) : s = t := by
  cases s; cases t
  congr
  exact Array.toList_inj.1 h
theorem ba_beq (s t : ByteArray) : (s == t) = decide (s = t) := by
  have h : (s == t) = (s.data == t.data) := rfl
  rw [h]
  by_cases e : s = t
  · subst e; simp
  · have : s.data ≠ t.data := fun he => e (ba_ext (by rw [he]))
    simp [e, this]
theorem ba_tl (s t : ByteArray) : (s.toList == t.toList) = decide (s = t) := by
  rw [ByteArray.toList_eq, ByteArray.toList_eq]
  by_cases e : s = t
  · subst e; simp
  · have : s.data.toList ≠ t.data.toList := fun he => e (ba_ext he)
    rw [decide_eq_false e]
    exact beq_eq_false_iff_ne.2 this
theorem ba_empty (s : ByteArray) : s.toList.isEmpty = decide (s = ByteArray.empty) := by
  rw [ByteArray.toList_eq]
  by_cases e : s = ByteArray.empty
  · subst e; rfl
  · have : s.data.toList ≠ [] := fun he => e (ba_ext he)
    simp only [e, decide_false]
    cases h : s.data.toList with
    | nil => exact absurd h this
    | cons a l => rfl
set_option maxHeartbeats 400000 in
theorem name_any (s : ByteArray) (w : World) (hs : s.size ≤ 9223372036854775807) :
    Calls Tryd.prog 87 #[.string s] w fun e w' => e = .returned (.bool (nameOk s)) ∧ w = w' := by
  go_enter Tryd.func87, Tryd.ntmps87
  go_wp2
  go_loop [6] (fun i => ∃ k : Nat, k ≤ s.size ∧ i = .int .i64 k ∧ (s.data.toList.take k).all lowerB = true) (fun i => s.size - (intOf i).toNat)
  case atStart => exact ⟨0, Nat.zero_le _, rfl, rfl⟩
  case round =>
    obtain ⟨k, hk, rfl, hall⟩ := hrel
    by_cases hlt : k < s.size
    · have hts := take_snocB s k hlt
      have hno := @name_no s k hlt
      have HA := Lib.hid hall
      have HT := Lib.hid hts
      have HN := Lib.hid hno
      clear hall hts hno
      go_wp2
      · go_ret
        exact ⟨ret_bool (HN.out (by assumption)).symm, rfl⟩
      · go_round
        case rel => exact ⟨k + 1, by omega, by go_num, by rw [HT.out, List.all_append, HA.out]; simp [lowerB]; omega⟩
        case measure => simp [intOf]; omega
      · go_ret
        exact ⟨ret_bool (HN.out (.inl (by assumption))).symm, rfl⟩
    · have HA := Lib.hid hall
      clear hall
      have he : s.data.toList.take k = s.data.toList := List.take_of_length_le (by simp; omega)
      have HE := Lib.hid he
      clear he
      have hfin : nameOk s = (!s.toList.isEmpty && decide ((s.size : Int) ≤ 12)) := by
        have := HA.out
        rw [HE.out] at this
        unfold nameOk
        rw [this, ba_empty]
        by_cases e : s = ByteArray.empty
        · simp [e]
        · simp only [e, decide_false, Bool.not_false, Bool.true_and, ne_eq, not_false_eq_true, decide_true]
          rw [decide_eq_decide]; omega
      have HF := Lib.hid hfin
      clear hfin
      go_wp2
      · have hem : s.toList.isEmpty = true := by have : s.toList = [] := by assumption
                                                 rw [this]; rfl
        go_ret
        exact ⟨ret_bool (by rw [HF.out, hem]; rfl), rfl⟩
      · go_ret
        exact ⟨ret_bool (by rw [HF.out]), rfl⟩

set_option maxRecDepth 100000 in
set_option maxHeartbeats 400000 in
theorem indexStr_any {w : World} {A : Option Addr} {c n : Nat} {xs : List ByteArray} (hx : Kd.string.C w A n xs) (v : ByteArray) :
    Calls Tryd.prog 50 #[.slice A n c, .string v] w fun e w' => e = .returned (.int .i64 (idxOf (fun x => decide (v = x)) xs)) ∧ w = w' := by
  obtain rfl := hx.1
  have hm := hx.2.1
  have HX := Lib.hid hx
  clear hx
  go_enter Tryd.func50, Tryd.ntmps50
  go_wp2
  go_loop [8] (fun i => ∃ k : Nat, k ≤ xs.length ∧ i = .int .i64 k ∧ (xs.take k).all (fun x => !decide (v = x)) = true) (fun i => xs.length - (intOf i).toNat)
  case atStart => exact ⟨0, Nat.zero_le _, rfl, rfl⟩
  case round =>
    obtain ⟨k, hk, rfl, hall⟩ := hrel
    have HA := Lib.hid hall
    clear hall
    by_cases hlt : k < xs.length
    · obtain ⟨ad, rfl, hc, hblk⟩ := at_str HX.out hlt
      have HT := Lib.hid (take_nth ByteArray.empty hlt)
      by_cases hv : v = nth ByteArray.empty xs k
      · have hq : (v.toList == (nth ByteArray.empty xs k).toList) = true := by rw [ba_tl]; simpa using hv
        have HQ := Lib.hid hv
        clear hv
        go_wp2
        go_ret
        exact ⟨ret_int (idxOf_at _ xs k ByteArray.empty hlt HA.out (by simpa using HQ.out)).symm, rfl⟩
      · have hq : (v.toList == (nth ByteArray.empty xs k).toList) = false := by rw [ba_tl]; simpa using hv
        have HQ := Lib.hid hv
        clear hv
        go_wp2
        go_round
        case rel => exact ⟨k + 1, by omega, by go_num, by rw [HT.out, List.all_append, HA.out]; simp [HQ.out]⟩
        case measure => simp [intOf]; omega
    · have : k = xs.length := by omega
      subst this
      rw [List.take_length] at HA
      go_wp2
      go_ret
      exact ⟨ret_int (idxOf_none _ xs HA.out).symm, rfl⟩
set_option maxHeartbeats 400000 in
theorem containsStr_any {w : World} {A : Option Addr} {c n : Nat} {xs : List ByteArray} (hx : Kd.string.C w A n xs) (v : ByteArray) :
    Calls Tryd.prog 88 #[.slice A n c, .string v] w fun e w' => e = .returned (.bool (decide (0 ≤ idxOf (fun x => decide (v = x)) xs))) ∧ w = w' := by
  have HX := Lib.hid hx
  clear hx
  go_enter Tryd.func88, Tryd.ntmps88
  go_wp2_with (go_at_call 50; refine (indexStr_any HX.out v).mono ?_; rintro e w' ⟨rfl, rfl⟩)
  go_ret
  exact ⟨rfl, rfl⟩
/-- Label i of an order that may be. -/
def okAt (L : Lat) (i : Nat) : Bool := nameOk (nth ByteArray.empty L.names i) && !decide (0 ≤ idxOf (fun x => decide (nth ByteArray.empty L.names i = x)) (L.names.take i)) && decide (upAt L i / 2 ^ L.up.length = 0)
def mayB (L : Lat) : Bool := decide (1 ≤ L.up.length) && decide (L.up.length ≤ 8) && decide (L.names.length = L.up.length) && (List.range L.names.length).all (okAt L)

theorem mayB_no {L : Lat} {k : Nat} (hk : k < L.names.length) (h : okAt L k = false) : mayB L = false := by
  have : (List.range L.names.length).all (okAt L) = false := by
    rw [List.all_eq_false]
    exact ⟨k, List.mem_range.2 hk, by simp [h]⟩
  unfold mayB
  rw [this, Bool.and_false]
theorem C_cut {α : Type} {d : Kd α} {w : World} {A : Option Addr} {xs : List α} {k : Nat} (h : d.C w A xs.length xs) (hk : k ≤ xs.length) : d.C w A k (xs.take k) := by
  have := Kd.C_take h hk
  rwa [List.length_take, Nat.min_eq_left hk] at this
theorem all_range_snoc (p : Nat → Bool) (k : Nat) (h : (List.range k).all p = true) (hk : p k = true) : (List.range (k + 1)).all p = true := by
  rw [List.range_succ, List.all_append, h]
  simp [hk]

set_option maxRecDepth 100000 in
set_option maxHeartbeats 1000000 in
theorem may_any {w : World} {An Au : Option Addr} {cn cu : Nat} {L : Lat} (hL : LatAt w An cn Au cu L) :
    Calls Tryd.prog 57 #[.agg #[.slice An L.names.length cn, .slice Au L.up.length cu]] w fun e w' => e = .returned (.bool (mayB L)) ∧ Below w.heap.size w w' := by
  have hm := hL.lenu
  have hm2 := hL.lenn
  have HL := Lib.hid hL
  clear hL
  by_cases h1 : 1 ≤ L.up.length ∧ L.up.length ≤ 8
  · obtain ⟨h1, h8⟩ := h1
    by_cases h2 : L.names.length = L.up.length
    · have hq : ((L.names.length : Int) != (L.up.length : Int)) = false := by rw [bne_eq_false_iff_eq]; omega
      have H2 := Lib.hid h2
      have h2' : L.names.length ≤ L.up.length := by omega
      have h2'' : L.up.length ≤ L.names.length := by omega
      have hn := HL.out.hn
      clear h2
      have HB0 := Lib.hid (below_new (w := w) (.cells #[.slice An L.names.length cn, .slice Au L.up.length cu] 25))
      go_enter Tryd.func57, Tryd.ntmps57
      go_wp2
      go_loopw [25] (fun i wr => ∃ k : Nat, k ≤ L.names.length ∧ i = .int .i64 k ∧ (List.range k).all (okAt L) = true ∧ wr = w.alloc (.cells #[.slice An L.names.length cn, .slice Au L.up.length cu] 25)) (fun i wr => L.names.length - (intOf i).toNat)
      case atStart => exact ⟨0, Nat.zero_le _, rfl, rfl, rfl⟩
      case round =>
        obtain ⟨k, hk, rfl, hall, rfl⟩ := hrel
        have HA := Lib.hid hall
        clear hall
        by_cases hlt : k < L.names.length
        · obtain ⟨ad, rfl, hc, hblk⟩ := at_str HL.out.names hlt
          obtain ⟨ad2, rfl, hc2, hblk2⟩ := HL.out.at_up (k := k) (by omega)
          have hu := HL.out.upAt_lt k
          have HS := Lib.hid (HL.out.hs _ (nth_mem ByteArray.empty hlt))
          have HC := Lib.hid (Kd.C_alloc (C_cut (HL.out.names) (show k ≤ L.names.length by omega)) (.cells #[.slice (some ad) L.names.length cn, .slice (some ad2) L.up.length cu] 25))
          have hsh := Lib.hid (shr_nat (upAt L k) L.up.length)
          have hmn : min L.up.length 32 = L.up.length := by omega
          cases e1 : nameOk (nth ByteArray.empty L.names k) with
          | false =>
            have E1 := Lib.hid e1
            clear e1 hmn
            have hf : mayB L = false := by
              have h : okAt L k = false := by simp [okAt, E1.out]
              exact mayB_no hlt h
            have HF := Lib.hid hf
            clear hf
            go_wp2_with (go_at_call 87; refine (name_any _ _ HS.out).mono ?_; rintro e w' ⟨rfl, rfl⟩; rw [E1.out])
            go_ret
            exact ⟨ret_bool HF.out.symm, HB0.out⟩
          | true =>
            have E1 := Lib.hid e1
            clear e1
            cases e2 : decide (0 ≤ idxOf (fun x => decide (nth ByteArray.empty L.names k = x)) (L.names.take k)) with
            | true =>
              have E2 := Lib.hid e2
              clear e2 hmn
              have hf : mayB L = false := by
                have h : okAt L k = false := by simp only [okAt, E1.out, E2.out]; rfl
                exact mayB_no hlt h
              have HF := Lib.hid hf
              clear hf
              go_wp2_with (first | (go_at_call 87; refine (name_any _ _ HS.out).mono ?_; rintro e w' ⟨rfl, rfl⟩; rw [E1.out]) | (go_at_call 88; refine (containsStr_any HC.out _).mono ?_; rintro e w' ⟨rfl, rfl⟩; rw [E2.out]))
              go_ret
              exact ⟨ret_bool HF.out.symm, HB0.out⟩
            | false =>
              have E2 := Lib.hid e2
              clear e2
              by_cases e3 : upAt L k / 2 ^ L.up.length = 0
              · have E3 := Lib.hid e3
                have h3 : ((upAt L k : Int) / 2 ^ L.up.length != 0) = false := by rw [hsh.out, e3]; rfl
                clear e3 hmn
                go_wp2_with (first | (go_at_call 87; refine (name_any _ _ HS.out).mono ?_; rintro e w' ⟨rfl, rfl⟩; rw [E1.out]) | (go_at_call 88; refine (containsStr_any HC.out _).mono ?_; rintro e w' ⟨rfl, rfl⟩; rw [E2.out]))
                go_roundw
                case rel => exact ⟨k + 1, by omega, by go_num, all_range_snoc _ _ HA.out (by simp only [okAt, E1.out, E2.out, E3.out]; rfl), (by first | trivial | rfl)⟩
                case measure => simp [intOf]; omega
              · have E3 := Lib.hid e3
                have h3 : ((upAt L k : Int) / 2 ^ L.up.length != 0) = true := by rw [hsh.out, bne_iff_ne]; omega
                clear e3 hmn
                have hf : mayB L = false := by
                  have h : okAt L k = false := by simp only [okAt, E1.out, E2.out, decide_eq_false E3.out]; rfl
                  exact mayB_no hlt h
                have HF := Lib.hid hf
                clear hf
                go_wp2_with (first | (go_at_call 87; refine (name_any _ _ HS.out).mono ?_; rintro e w' ⟨rfl, rfl⟩; rw [E1.out]) | (go_at_call 88; refine (containsStr_any HC.out _).mono ?_; rintro e w' ⟨rfl, rfl⟩; rw [E2.out]))
                go_ret
                exact ⟨ret_bool HF.out.symm, HB0.out⟩
        · have : k = L.names.length := by omega
          subst this
          have hf : mayB L = true := by
            unfold mayB
            rw [HA.out, H2.out]
            simp [h1, h8]
          have HF := Lib.hid hf
          clear hf
          go_wp2
          go_ret
          exact ⟨ret_bool HF.out.symm, HB0.out⟩
    · have hq : ((L.names.length : Int) != (L.up.length : Int)) = true := by rw [bne_iff_ne]; omega
      have hf : mayB L = false := by simp [mayB, h2]
      have HF := Lib.hid hf
      clear hf h2
      go_enter Tryd.func57, Tryd.ntmps57
      go_wp2
      go_ret
      exact ⟨ret_bool HF.out.symm, below_new _⟩
  · have hf : mayB L = false := by
      unfold mayB
      by_cases ha : 1 ≤ L.up.length
      · have : ¬ L.up.length ≤ 8 := fun h => h1 ⟨ha, h⟩
        simp [this]
      · simp [ha]
    have HF := Lib.hid hf
    clear hf
    rcases Nat.lt_or_ge L.up.length 1 with h3 | h3
    · clear h1
      go_enter Tryd.func57, Tryd.ntmps57
      go_wp2
      go_ret
      exact ⟨ret_bool HF.out.symm, below_new _⟩
    · have h4 : 8 < L.up.length := by omega
      clear h1
      go_enter Tryd.func57, Tryd.ntmps57
      go_wp2
      go_ret
      exact ⟨ret_bool HF.out.symm, below_new _⟩
end Go.Proofs.YtmcafcgbbhcjhaaDoor
