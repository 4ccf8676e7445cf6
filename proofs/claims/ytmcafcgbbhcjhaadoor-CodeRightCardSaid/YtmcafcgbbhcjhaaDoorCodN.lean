/- code: From. -/
import Derived.Test.YtmcafcgbbhcjhaaDoorCodM
import Derived.OwnWalk
namespace Go.Proofs.YtmcafcgbbhcjhaaDoor
open Go.RowKit Go.Shelf Go.Proofs.YtmcafcgbbhcjhaaDoorW.PrintWords
attribute [local go_sem] Oper.semAt_some

/-- An instruction's cells. -/
def iR (x : Instr) (cs : List Value) : Prop := cs = [.int .i64 x.op, .int .i64 x.n, .int .i64 x.l]
def instrI (t : Tok) : Int := if t.kind = 1 then idxOf (fun x => decide (x = t.text)) wordsL else -1
def fromGo (L : Lat) (T : List Tok) : Nat → Nat → List Instr → List Instr × Nat × Int
  | 0, i, _ => ([], i, 0)
  | f + 1, i, out => if instrI (tk T i) < 0 then (out, i, 0) else if out.length = 12 then ([], i, 8) else
      if oneE L T i (instrI (tk T i)) = 0 then fromGo L T f (oneI L T i (instrI (tk T i))) (out ++ [oneX L T i (instrI (tk T i))]) else ([], oneI L T i (instrI (tk T i)), oneE L T i (instrI (tk T i)))
def fromP (L : Lat) (T : List Tok) (i : Int) : List Instr × Nat × Int :=
  if checkE L = 0 then (if 0 ≤ i ∧ i < T.length ∧ (tk T (T.length - 1)).kind = 0 then fromGo L T 13 i.toNat [] else ([], 0, 1)) else ([], 0, checkE L)
theorem fromGo_none {L : Lat} {T : List Tok} {k : Nat} {out : List Instr} {r : List Instr × Nat × Int} (h12 : out.length ≤ 12) (h : fromGo L T (13 - out.length) k out = r) (hn : instrI (tk T k) < 0) : r = (out, k, 0) := by
  rw [← h, show 13 - out.length = (12 - out.length) + 1 by omega, fromGo, if_pos hn]
theorem fromGo_many {L : Lat} {T : List Tok} {k : Nat} {out : List Instr} {r : List Instr × Nat × Int} (h : fromGo L T (13 - out.length) k out = r) (hn : ¬ instrI (tk T k) < 0) (h12 : out.length = 12) : r = ([], k, 8) := by
  rw [← h, show 13 - out.length = (12 - out.length) + 1 by omega, fromGo, if_neg hn, if_pos h12]
theorem fromGo_next {L : Lat} {T : List Tok} {k : Nat} {out : List Instr} {r : List Instr × Nat × Int} (h12 : out.length ≤ 12) (h : fromGo L T (13 - out.length) k out = r) (hn : ¬ instrI (tk T k) < 0) (hne : out.length ≠ 12) :
    (oneE L T k (instrI (tk T k)) = 0 ∧ fromGo L T (13 - (out ++ [oneX L T k (instrI (tk T k))]).length) (oneI L T k (instrI (tk T k))) (out ++ [oneX L T k (instrI (tk T k))]) = r) ∨ (oneE L T k (instrI (tk T k)) ≠ 0 ∧ r = ([], oneI L T k (instrI (tk T k)), oneE L T k (instrI (tk T k)))) := by
  rw [show 13 - out.length = (12 - out.length) + 1 by omega, fromGo, if_neg hn, if_neg hne] at h
  by_cases he : oneE L T k (instrI (tk T k)) = 0
  · rw [if_pos he] at h
    refine .inl ⟨he, ?_⟩
    rw [List.length_append, List.length_singleton, show 13 - (out.length + 1) = 12 - out.length by omega]
    exact h
  · rw [if_neg he] at h
    exact .inr ⟨he, h.symm⟩
theorem instrI_kind {t : Tok} (h : ¬ instrI t < 0) : t.kind ≠ 0 := by
  intro e
  apply h
  simp [instrI, e]
/-- What From hands back: its program lies in new memory. -/
def FromPost (w : World) (r : List Instr × Nat × Int) (e : Ending) (w' : World) : Prop :=
  ∃ v, e = .returned (.tuple #[v, .int .i64 r.2.1, .int .i64 r.2.2]) ∧ OwnRow iR 51 3 w' w.heap.size v r.1 ∧ Below w.heap.size w w'
theorem OwnRow.but {α : Type} {R : α → List Value → Prop} {e size B : Nat} {w w' : World} {v : Value} {ps : List α} (h : OwnRow R e size w (B + 1) v ps) (hb : But B w w') : OwnRow R e size w' (B + 1) v ps := by
  obtain ⟨inner, ho, hr⟩ := h
  have hk : KeepBut w w' B none := ⟨hb.size, fun k hk hB _ => hb.block k hB hk⟩
  exact ⟨inner, hk.own ho (fun e => by have := own_base ho _ e; omega) (by cases v.ownBlock <;> simp), hr⟩
def lenOf : Value → Nat | .slice _ n _ => n | _ => 0
section
variable {w0 : World} {An Au At : Option Addr} {cn cu ct : Nat} {L : Lat} {T : List Tok} {B i : Nat} {bad : Int} {w : World}
theorem RdAt.far {w' : World} (hI : RdIn w0 An cn Au cu L At T B) (h : RdAt w0 An cn Au cu L At ct T B w i bad) (hb : Below (B + 1) w w') : RdAt w0 An cn Au cu L At ct T B w' i bad :=
  have hl : B < B + 1 := by omega
  have hB := hI.base
  ⟨(hb.cell (p := ⟨B, 0, none⟩) hl).trans h.c0, (hb.cell (p := ⟨B, 1, none⟩) hl).trans h.c1, (hb.cell (p := ⟨B, 2, none⟩) hl).trans h.c2, (hb.cell (p := ⟨B, 3, none⟩) hl).trans h.c3, (hb.cell (p := ⟨B, 4, none⟩) hl).trans h.c4,
    (hb.frozen (p := ⟨B, 3, none⟩) hl).trans h.f3, (hb.frozen (p := ⟨B, 4, none⟩) hl).trans h.f4, Nat.lt_of_lt_of_le h.lt hb.size, h.below.trans (below_le hb (by omega)), h.place⟩
/-- From's loop: what is true ahead of each round. -/
def FromRel (w0 : World) (An : Option Addr) (cn : Nat) (Au : Option Addr) (cu : Nat) (L : Lat) (At : Option Addr) (ct : Nat) (T : List Tok) (B : Nat) (r : List Instr × Nat × Int) (v : Value) (wr : World) : Prop :=
  ∃ out k bad, OwnRow iR 51 3 wr (B + 1) v out ∧ RdAt w0 An cn Au cu L At ct T B wr k bad ∧ out.length ≤ 13 ∧ ((bad = 0 ∧ out.length ≤ 12 ∧ fromGo L T (13 - out.length) k out = r) ∨ (bad ≠ 0 ∧ r = ([], k, bad)))
set_option maxRecDepth 100000 in
set_option maxHeartbeats 2000000 in
theorem from_ok (hW : WordsAt w) (hL : LatAt w An cn Au cu L) (hT : kTok.C w At T.length T) (hc : checkE L = 0) (hi : i < T.length) (hl : (tk T (T.length - 1)).kind = 0) :
    Calls Tryd.prog 68 #[.agg #[.slice An L.names.length cn, .slice Au L.up.length cu], .slice At T.length ct, .int .i64 i] w (FromPost w (fromGo L T 13 i [])) := by
  obtain ⟨r, hr⟩ : ∃ r, r = fromGo L T 13 i [] := ⟨_, rfl⟩
  rw [← hr]
  have hlenT := hT.2.1
  have HL := Lib.hid hL
  have HT := Lib.hid hT
  have HR := Lib.hid hr
  have HE := Lib.hid hc
  have HK := Lib.hid hl
  have hB0 := Lib.hid (below_new (w := w) (.cells #[.slice An L.names.length cn, .slice Au L.up.length cu] 25))
  clear hL hT hr hc hl
  go_enter Tryd.func68, Tryd.ntmps68
  go_wp2_with fail
  refine (check_any (HL.out.below hB0.out)).mono ?_
  rintro e w1 ⟨rfl, hb1⟩
  rw [HE.out]
  have HB1 := Lib.hid (below_step hB0.out hB0.out.size hb1)
  have hd0 := (hb1.cell (p := ⟨w.heap.size, 0, none⟩) (by simp)).trans (show _ = some (.slice An L.names.length cn) by simp [go_sem])
  have hd1 := (hb1.cell (p := ⟨w.heap.size, 1, none⟩) (by simp)).trans (show _ = some (.slice Au L.up.length cu) by simp [go_sem])
  have hdlt : w.heap.size < w1.heap.size := Nat.lt_of_lt_of_le (by simp) hb1.size
  obtain ⟨ad, rfl, t0, -, -, hblk⟩ := at_tok (Kd.C_below HT.out HB1.out) (k := T.length - 1) (by omega)
  have hdd : decide (T.length ≤ i) = false := decide_eq_false (by omega)
  have hd9 : decide ((i : Int) < 0) = false := decide_eq_false (by omega)
  have hln : ((T.length : Int) - 1).toNat = T.length - 1 := by omega
  change w1.cell? _ = some (.int .i64 (tk T (T.length - 1)).kind) at t0
  rw [HK.out] at t0
  clear hb1
  go_wp2_with fail
  obtain ⟨B, hBe⟩ : ∃ B, B = w1.heap.size := ⟨_, rfl⟩
  have HI : Hid (RdIn w An cn Au cu L (some ad) T B) := Lib.hid ⟨HL.out, HT.out, by rw [hBe]; exact HB1.out.size, by omega, HK.out⟩
  have HS : Hid (RdAt w An cn Au cu L (some ad) ct T B (w1.alloc (.cells #[.slice An L.names.length cn, .slice Au L.up.length cu, .slice (some ad) T.length ct, .int .i64 i, .int .i64 0] 148)) i 0) := Lib.hid (by
    rw [hBe]
    exact ⟨by simp [go_sem], by simp [go_sem], by simp [go_sem], by simp [go_sem], by simp [go_sem], by simp [go_sem], by simp [go_sem], by simp, below_step HB1.out HB1.out.size (below_new _), hi⟩)
  have hBs : B < (w1.alloc (.cells #[.slice An L.names.length cn, .slice Au L.up.length cu, .slice (some ad) T.length ct, .int .i64 i, .int .i64 0] 148)).heap.size := by rw [hBe]; simp
  have HBs := Lib.hid hBs
  rw [← hBe]
  have HBE := Lib.hid hBe
  clear t0 hblk hd0 hd1 hdlt hBe hBs
  go_loopw [11] (fun v wr => FromRel w An cn Au cu L (some ad) ct T B r v wr) (fun v _ => 13 - lenOf v)
  case atStart => exact ⟨[], i, 0, ⟨[], own_nil _ _ _ _, Reps.none _ _⟩, HS.out, by simp, .inl ⟨rfl, by simp, HR.out.symm⟩⟩
  case round =>
    obtain ⟨out, k, bad, ho, hrd, h13, hor⟩ := hrel
    obtain ⟨A', c', rfl, hcap⟩ := ho.slice_
    have HO := Lib.hid ho
    have HRd := Lib.hid hrd
    have hc4 := hrd.c4
    have hlt := hrd.lt
    have hpl := hrd.place
    clear ho hrd
    rcases hor with ⟨hbad, h12, hgo⟩ | ⟨hbad, hre⟩
    · have hrd := HRd.out
      rw [hbad] at hc4 hrd
      have HRd := Lib.hid hrd
      have HGo := Lib.hid hgo
      clear hbad hgo hrd
      go_wp2_with fail
      refine (tok_any HI.out HRd.out).mono ?_
      rintro e w2 ⟨rfl, hb2⟩
      have HRd2 := Lib.hid (HRd.out.next hb2)
      have HO2 := Lib.hid (OwnRow.but HO.out (But.of hb2))
      clear hb2
      go_wp2_with fail
      refine (instruction_any (t := tk T k) (hW.below HRd2.out.below hW.lt)).mono ?_
      rintro e w3 ⟨rfl, hb3⟩
      have hrd3 := HRd2.out.next hb3
      have HRd3 := Lib.hid hrd3
      have HO3 := Lib.hid (OwnRow.but HO2.out (But.of hb3))
      have hc3' := hrd3.c3
      have hc4' := hrd3.c4
      have hlt' := hrd3.lt
      clear hb3 hrd3
      obtain ⟨op, hop⟩ : ∃ op, op = (if (tk T k).kind = 1 then idxOf (fun x => decide (x = (tk T k).text)) wordsL else -1) := ⟨_, rfl⟩
      rw [← hop]
      have HOp : Hid (instrI (tk T k) = op) := Lib.hid (by rw [hop]; rfl)
      clear hop
      by_cases hneg : op < 0
      · have HRe := Lib.hid (fromGo_none h12 HGo.out (by rw [HOp.out]; exact hneg))
        go_wp2_with fail
        go_region
        go_wp2
        go_ret3
        exact ⟨_, by rw [HRe.out]; rfl, by rw [HRe.out]; exact (OwnRow.but HO3.out (But.of (Below.refl _ _).drew)).lower (by rw [HBE.out]; exact Nat.le_succ_of_le HB1.out.size), HRd3.out.below.drew⟩
      · have HNeg := Lib.hid (show ¬ instrI (tk T k) < 0 by rw [HOp.out]; exact hneg)
        have hneg' : ¬ op < 0 := hneg
        by_cases h12' : out.length = 12
        · have HRe := Lib.hid (fromGo_many HGo.out HNeg.out h12')
          have hq : ((out.length : Int) == 12) = true := by simp [h12']
          clear h12'
          go_wp2_with fail
          refine (fail_any HI.out HRd3.out 8).mono ?_
          rintro e w4 ⟨rfl, hrd4, hb4⟩
          have HRd4 := Lib.hid hrd4
          have hc3'' := hrd4.c3
          have hc4'' := hrd4.c4
          have hlt'' := hrd4.lt
          clear hrd4 hb4
          go_wp2_with fail
          go_region
          go_wp2
          go_ret3
          exact ⟨_, by rw [HRe.out]; rfl, by rw [HRe.out]; exact ⟨[], own_nil _ _ _ _, Reps.none _ _⟩, HRd4.out.below.drew⟩
        · have HNx := Lib.hid (fromGo_next h12 HGo.out HNeg.out h12')
          have hq : ((out.length : Int) == 12) = false := by simp; omega
          have HPl := Lib.hid (HI.out.room HRd3.out.place (instrI_kind HNeg.out))
          have hl12 : out.length < 12 := by omega
          clear h12'
          go_wp2_with fail
          refine (one_any HI.out HRd3.out HPl.out op).mono ?_
          rintro e w4 ⟨rfl, hrd4, hb4⟩
          have HRd4 := Lib.hid hrd4
          have HO4 := Lib.hid (OwnRow.but HO3.out hb4)
          have hlt'' := hrd4.lt
          clear hrd4 hb4
          go_wp2_with (at_builtin; refine OwnRow.append (w0 := w4) (R := iR) (B + 1) rfl _ _ 26 51 (.agg #[.int .i64 0, .int .i64 0, .int .i64 0]) 3 24 rfl Tryd.underlying26 (by kernel_rfl) rfl (by decide) (by decide) (.slice A' out.length c') out (oneX L T k op) [.int .i64 op, .int .i64 (oneN T k op), .int .i64 (oneL L T k op)] rfl rfl rfl rfl (by intro u hu; simp only [List.mem_cons, List.not_mem_nil, or_false] at hu; rcases hu with rfl | rfl | rfl <;> rfl) HO4.out (Below.refl _ _) (by omega) (by omega) ?_; intro v1 w5 ho5 hb5 hg5 hat5)
          obtain ⟨A1, c1, rfl, -⟩ := ho5.slice_
          go_roundw
          case rel => exact ⟨_, _, _, ho5, RdAt.far HI.out HRd4.out hb5, by simp; omega, by
            rcases HNx.out with ⟨h1, h2⟩ | ⟨h1, h2⟩
            · rw [HOp.out] at h1 h2; exact .inl ⟨h1, by simp; omega, h2⟩
            · rw [HOp.out] at h1 h2; exact .inr ⟨h1, h2⟩⟩
          case measure => simp [lenOf]; omega
    · have hq : (bad == 0) = false := by simpa using hbad
      have HRe := Lib.hid hre
      have hc3 := HRd.out.c3
      clear hbad hre
      go_wp2_with fail
      go_region
      go_wp2
      go_ret3
      exact ⟨_, by rw [HRe.out]; rfl, by rw [HRe.out]; exact ⟨[], own_nil _ _ _ _, Reps.none _ _⟩, HRd.out.below.drew⟩
set_option maxRecDepth 100000 in
theorem from_check (hL : LatAt w An cn Au cu L) (hc : checkE L ≠ 0) (j : Int) :
    Calls Tryd.prog 68 #[.agg #[.slice An L.names.length cn, .slice Au L.up.length cu], .slice At T.length ct, .int .i64 j] w (FromPost w ([], 0, checkE L)) := by
  obtain ⟨r, hr⟩ : ∃ r : List Instr × Nat × Int, r = ([], 0, checkE L) := ⟨_, rfl⟩
  rw [← hr]
  have HRe := Lib.hid hr
  have hc' : (checkE L != 0) = true := by simpa using hc
  clear hr hc
  have HL := Lib.hid hL
  have hB0 := Lib.hid (below_new (w := w) (.cells #[.slice An L.names.length cn, .slice Au L.up.length cu] 25))
  clear hL
  go_enter Tryd.func68, Tryd.ntmps68
  go_wp2_with fail
  refine (check_any (HL.out.below hB0.out)).mono ?_
  rintro e w1 ⟨rfl, hb1⟩
  have HB1 := Lib.hid (below_step hB0.out hB0.out.size hb1)
  clear hb1
  go_wp2
  go_ret3
  exact ⟨_, by rw [HRe.out]; rfl, by rw [HRe.out]; exact ⟨[], own_nil _ _ _ _, Reps.none _ _⟩, HB1.out⟩
set_option maxRecDepth 100000 in
theorem from_low (hL : LatAt w An cn Au cu L) (hc : checkE L = 0) (j : Int) (hj : ¬ (0 ≤ j ∧ j < T.length)) :
    Calls Tryd.prog 68 #[.agg #[.slice An L.names.length cn, .slice Au L.up.length cu], .slice At T.length ct, .int .i64 j] w (FromPost w ([], 0, 1)) := by
  obtain ⟨r, hr⟩ : ∃ r : List Instr × Nat × Int, r = ([], 0, 1) := ⟨_, rfl⟩
  rw [← hr]
  have HRe := Lib.hid hr
  have HE := Lib.hid hc
  clear hr hc
  have HL := Lib.hid hL
  have hB0 := Lib.hid (below_new (w := w) (.cells #[.slice An L.names.length cn, .slice Au L.up.length cu] 25))
  clear hL
  go_enter Tryd.func68, Tryd.ntmps68
  go_wp2_with fail
  refine (check_any (HL.out.below hB0.out)).mono ?_
  rintro e w1 ⟨rfl, hb1⟩
  have HB1 := Lib.hid (below_step hB0.out hB0.out.size hb1)
  rw [HE.out]
  clear hb1
  by_cases h0 : j < 0
  · have hd0 : decide (j < 0) = true := decide_eq_true h0
    go_wp2
    go_ret3
    exact ⟨_, by rw [HRe.out]; rfl, by rw [HRe.out]; exact ⟨[], own_nil _ _ _ _, Reps.none _ _⟩, HB1.out⟩
  · have hd0 : decide (j < 0) = false := decide_eq_false h0
    have hd1 : decide ((T.length : Int) ≤ j) = true := decide_eq_true (by omega)
    go_wp2
    go_ret3
    exact ⟨_, by rw [HRe.out]; rfl, by rw [HRe.out]; exact ⟨[], own_nil _ _ _ _, Reps.none _ _⟩, HB1.out⟩
set_option maxRecDepth 100000 in
theorem from_last (hL : LatAt w An cn Au cu L) (hT : kTok.C w At T.length T) (hc : checkE L = 0) {i : Nat} (hi : i < T.length) (hl : (tk T (T.length - 1)).kind ≠ 0) :
    Calls Tryd.prog 68 #[.agg #[.slice An L.names.length cn, .slice Au L.up.length cu], .slice At T.length ct, .int .i64 i] w (FromPost w ([], 0, 1)) := by
  obtain ⟨r, hr⟩ : ∃ r : List Instr × Nat × Int, r = ([], 0, 1) := ⟨_, rfl⟩
  rw [← hr]
  have HRe := Lib.hid hr
  have HE := Lib.hid hc
  have HT := Lib.hid hT
  have hlenT := hT.2.1
  have hl' : ((tk T (T.length - 1)).kind != 0) = true := by simpa using hl
  clear hr hc hT hl
  have HL := Lib.hid hL
  have hB0 := Lib.hid (below_new (w := w) (.cells #[.slice An L.names.length cn, .slice Au L.up.length cu] 25))
  clear hL
  go_enter Tryd.func68, Tryd.ntmps68
  go_wp2_with fail
  refine (check_any (HL.out.below hB0.out)).mono ?_
  rintro e w1 ⟨rfl, hb1⟩
  have HB1 := Lib.hid (below_step hB0.out hB0.out.size hb1)
  rw [HE.out]
  obtain ⟨ad, rfl, t0, -, -, hblk⟩ := at_tok (Kd.C_below HT.out HB1.out) (k := T.length - 1) (by omega)
  have hdd : decide (T.length ≤ i) = false := decide_eq_false (by omega)
  have hd9 : decide ((i : Int) < 0) = false := decide_eq_false (by omega)
  have hln : ((T.length : Int) - 1).toNat = T.length - 1 := by omega
  change w1.cell? _ = some (.int .i64 (tk T (T.length - 1)).kind) at t0
  clear hb1
  go_wp2
  go_ret3
  exact ⟨_, by rw [HRe.out]; rfl, by rw [HRe.out]; exact ⟨[], own_nil _ _ _ _, Reps.none _ _⟩, HB1.out⟩
theorem from_any (hW : WordsAt w) (hL : LatAt w An cn Au cu L) (hT : kTok.C w At T.length T) (j : Int) :
    Calls Tryd.prog 68 #[.agg #[.slice An L.names.length cn, .slice Au L.up.length cu], .slice At T.length ct, .int .i64 j] w (FromPost w (fromP L T j)) := by
  unfold fromP
  by_cases hc : checkE L = 0
  · rw [if_pos hc]
    by_cases hj : 0 ≤ j ∧ j < T.length
    · obtain ⟨i, rfl⟩ := Int.eq_ofNat_of_zero_le hj.1
      by_cases hl : (tk T (T.length - 1)).kind = 0
      · rw [if_pos ⟨hj.1, hj.2, hl⟩]
        exact from_ok hW hL hT hc (by omega) hl
      · rw [if_neg (fun h => hl h.2.2)]
        exact from_last hL hT hc (by omega) hl
    · rw [if_neg (fun h => hj ⟨h.1, h.2.1⟩)]
      exact from_low hL hc j hj
  · rw [if_neg hc]
    exact from_check hL hc j
end
end Go.Proofs.YtmcafcgbbhcjhaaDoor
