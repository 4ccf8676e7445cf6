/- lex: token. -/
import Derived.Test.YtmcafcgbbhcjhaaDoorLexA
namespace Go.Proofs.YtmcafcgbbhcjhaaDoor
open Go.RowKit Go.Shelf Go.Proofs.YtmcafcgbbhcjhaaDoorW.PrintWords
attribute [local go_sem] Oper.semAt_some

def marksB : ByteArray := ⟨#[40, 41, 91, 93, 59, 58, 44, 60, 62, 64, 45, 61]⟩
def leB : ByteArray := ⟨#[60, 61]⟩
/-- The kind of what begins with byte c, and how long it is. -/
def blankC (c : UInt8) : Bool := decide (c.toNat = 32) || decide (c.toNat = 9) || decide (c.toNat = 10)
def tokC (c : UInt8) (l : List UInt8) : Int × Nat :=
  if blankC c = true then (0, 1) else if c.toNat = 35 then (0, whileN notNl l) else if lowerB c = true then (1, whileN lowerB l) else if digitB c = true then (2, whileN digitB l)
  else if Lib.hasPrefix l [60, 61] = true then (3, 2) else if (0 : Int) ≤ Lib.indexByte marksB.data.toList c then (3, 1) else (0, 0)
theorem int_beq_nat (a b : Nat) : ((a : Int) == (b : Int)) = decide (a = b) := by
  by_cases h : a = b
  · simp [h]
  · simp [h]; omega
set_option maxRecDepth 100000 in
set_option maxHeartbeats 1000000 in
theorem token_any (s : ByteArray) (hs : s.size ≤ 9223372036854775807) (h0 : 0 < s.size) (w : World) :
    Calls Tryd.prog 80 #[.string s] w fun e w' => e = .returned (.tuple #[.int .i64 (tokC s[0] s.data.toList).1, .int .i64 ((tokC s[0] s.data.toList).2 : Nat)]) ∧ w = w' := by
  obtain ⟨r, hr⟩ : ∃ r, r = tokC s[0] s.data.toList := ⟨_, rfl⟩
  rw [← hr]
  have HR := Lib.hid hr
  clear hr
  have h9 : ((s[0].toNat : Int) == 32) = decide (s[0].toNat = 32) := int_beq_nat _ 32
  have h10 : ((s[0].toNat : Int) == 9) = decide (s[0].toNat = 9) := int_beq_nat _ 9
  have h11 : ((s[0].toNat : Int) == 10) = decide (s[0].toNat = 10) := int_beq_nat _ 10
  have h35 : ((s[0].toNat : Int) == 35) = decide (s[0].toNat = 35) := int_beq_nat _ 35
  cases hb : blankC s[0] with
  | true =>
    have HE := Lib.hid (show r = (0, 1) by rw [HR.out, tokC, if_pos hb])
    unfold blankC at hb
    by_cases e1 : s[0].toNat = 32
    · have d1 := decide_eq_true e1
      rw [d1] at h9
      clear e1 d1 hb h10 h11 h35 HR
      go_enter Tryd.func80, Tryd.ntmps80
      go_wp2
      go_ret2
      exact ⟨by rw [HE.out]; rfl, rfl⟩
    · by_cases e2 : s[0].toNat = 9
      · rw [decide_eq_false e1] at h9
        rw [decide_eq_true e2] at h10
        clear e1 e2 hb h11 h35 HR
        go_enter Tryd.func80, Tryd.ntmps80
        go_wp2
        go_ret2
        exact ⟨by rw [HE.out]; rfl, rfl⟩
      · have e3 : s[0].toNat = 10 := by simpa [e1, e2] using hb
        rw [decide_eq_false e1] at h9
        rw [decide_eq_false e2] at h10
        rw [decide_eq_true e3] at h11
        clear e1 e2 e3 hb h35 HR
        go_enter Tryd.func80, Tryd.ntmps80
        go_wp2
        go_ret2
        exact ⟨by rw [HE.out]; rfl, rfl⟩
  | false =>
    have hb' := hb
    unfold blankC at hb'
    simp only [Bool.or_eq_false_iff] at hb'
    rw [hb'.1.1] at h9
    rw [hb'.1.2] at h10
    rw [hb'.2] at h11
    have HNb := Lib.hid hb
    clear hb hb'
    by_cases e35 : s[0].toNat = 35
    · have HE := Lib.hid (show r = (0, whileN notNl s.data.toList) by rw [HR.out, tokC, if_neg (by rw [HNb.out]; decide), if_pos e35])
      have HWh := Lib.hid (while_any s hs 108 (entersF Tryd.func108 (by kernel_rfl) rfl) notNl notNl_any)
      rw [decide_eq_true e35] at h35
      clear e35 HR
      go_enter Tryd.func80, Tryd.ntmps80
      go_wp2_with (go_at_call 107; refine (HWh.out _).mono ?_; rintro e w' ⟨rfl, rfl⟩)
      go_ret2
      exact ⟨by rw [HE.out]; rfl, rfl⟩
    · have HN35 := Lib.hid e35
      rw [decide_eq_false e35] at h35
      clear e35
      have HLt := Lib.hid (letter_any s[0])
      have HDg := Lib.hid (digit_any s[0])
      cases hlw : lowerB s[0] with
      | true =>
        have HE := Lib.hid (show r = (1, whileN lowerB s.data.toList) by rw [HR.out, tokC, if_neg (by rw [HNb.out]; decide), if_neg HN35.out, if_pos hlw])
        have HWh := Lib.hid (while_any s hs 109 (entersF Tryd.func109 (by kernel_rfl) rfl) lowerB letter_any)
        rw [hlw] at HLt
        clear hlw HR
        go_enter Tryd.func80, Tryd.ntmps80
        go_wp2_with (first | (go_at_call 107; refine (HWh.out _).mono ?_; rintro e w' ⟨rfl, rfl⟩) | (go_at_call 109; refine (HLt.out _).mono ?_; rintro e w' ⟨rfl, rfl⟩))
        go_ret2
        exact ⟨by rw [HE.out]; rfl, rfl⟩
      | false =>
        have HNl := Lib.hid hlw
        rw [hlw] at HLt
        clear hlw
        cases hdg : digitB s[0] with
        | true =>
          have HE := Lib.hid (show r = (2, whileN digitB s.data.toList) by rw [HR.out, tokC, if_neg (by rw [HNb.out]; decide), if_neg HN35.out, if_neg (by rw [HNl.out]; decide), if_pos hdg])
          have HWh := Lib.hid (while_any s hs 110 (entersF Tryd.func110 (by kernel_rfl) rfl) digitB digit_any)
          rw [hdg] at HDg
          clear hdg HR
          go_enter Tryd.func80, Tryd.ntmps80
          go_wp2_with (first | (go_at_call 107; refine (HWh.out _).mono ?_; rintro e w' ⟨rfl, rfl⟩) | (go_at_call 109; refine (HLt.out _).mono ?_; rintro e w' ⟨rfl, rfl⟩) | (go_at_call 110; refine (HDg.out _).mono ?_; rintro e w' ⟨rfl, rfl⟩))
          go_ret2
          exact ⟨by rw [HE.out]; rfl, rfl⟩
        | false =>
          have HNd := Lib.hid hdg
          rw [hdg] at HDg
          clear hdg
          have HPr := Lib.hid (Tryd.strings_HasPrefix s leB)
          have hcc : ((s[0].toNat : Int).toNat.toUInt8) = s[0] := by simp
          have HIb := Lib.hid (Tryd.strings_IndexByte marksB (s[0].toNat : Int))
          rw [hcc] at HIb
          clear hcc
          cases hpr : Lib.hasPrefix s.data.toList [60, 61] with
          | true =>
            have HE := Lib.hid (show r = (3, 2) by rw [HR.out, tokC, if_neg (by rw [HNb.out]; decide), if_neg HN35.out, if_neg (by rw [HNl.out]; decide), if_neg (by rw [HNd.out]; decide), if_pos hpr])
            rw [show leB.data.toList = [60, 61] from rfl, hpr] at HPr
            clear hpr HR
            go_enter Tryd.func80, Tryd.ntmps80
            go_wp2_with (first | (go_at_call 109; refine (HLt.out _).mono ?_; rintro e w' ⟨rfl, rfl⟩) | (go_at_call 110; refine (HDg.out _).mono ?_; rintro e w' ⟨rfl, rfl⟩) | (go_at_call 111; refine (HPr.out _).mono ?_; rintro e w' ⟨rfl, rfl⟩))
            go_ret2
            exact ⟨by rw [HE.out]; rfl, rfl⟩
          | false =>
            have HNp := Lib.hid hpr
            rw [show leB.data.toList = [60, 61] from rfl, hpr] at HPr
            clear hpr
            by_cases hib : (0 : Int) ≤ Lib.indexByte marksB.data.toList s[0]
            · have HE := Lib.hid (show r = (3, 1) by rw [HR.out, tokC, if_neg (by rw [HNb.out]; decide), if_neg HN35.out, if_neg (by rw [HNl.out]; decide), if_neg (by rw [HNd.out]; decide), if_neg (by rw [HNp.out]; decide), if_pos hib])
              clear HR
              go_enter Tryd.func80, Tryd.ntmps80
              go_wp2_with (first | (go_at_call 109; refine (HLt.out _).mono ?_; rintro e w' ⟨rfl, rfl⟩) | (go_at_call 110; refine (HDg.out _).mono ?_; rintro e w' ⟨rfl, rfl⟩) | (go_at_call 111; refine (HPr.out _).mono ?_; rintro e w' ⟨rfl, rfl⟩) | (go_at_call 112; refine (HIb.out _).mono ?_; rintro e w' ⟨rfl, rfl⟩))
              go_ret2
              exact ⟨by rw [HE.out]; rfl, rfl⟩
            · have HE := Lib.hid (show r = (0, 0) by rw [HR.out, tokC, if_neg (by rw [HNb.out]; decide), if_neg HN35.out, if_neg (by rw [HNl.out]; decide), if_neg (by rw [HNd.out]; decide), if_neg (by rw [HNp.out]; decide), if_neg hib])
              clear HR
              go_enter Tryd.func80, Tryd.ntmps80
              go_wp2_with (first | (go_at_call 109; refine (HLt.out _).mono ?_; rintro e w' ⟨rfl, rfl⟩) | (go_at_call 110; refine (HDg.out _).mono ?_; rintro e w' ⟨rfl, rfl⟩) | (go_at_call 111; refine (HPr.out _).mono ?_; rintro e w' ⟨rfl, rfl⟩) | (go_at_call 112; refine (HIb.out _).mono ?_; rintro e w' ⟨rfl, rfl⟩))
              go_ret2
              exact ⟨by rw [HE.out]; rfl, rfl⟩
end Go.Proofs.YtmcafcgbbhcjhaaDoor
