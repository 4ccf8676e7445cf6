/- code: the reader's one instruction. -/
import Derived.Test.YtmcafcgbbhcjhaaDoorCodH
import Derived.Test.YtmcafcgbbhcjhaaDoorCodI
import Derived.Test.YtmcafcgbbhcjhaaDoorCodJ
namespace Go.Proofs.YtmcafcgbbhcjhaaDoor
open Go.RowKit Go.Shelf Go.Proofs.YtmcafcgbbhcjhaaDoorW.PrintWords
attribute [local go_sem] Oper.semAt_some

def semiB : ByteArray := ⟨#[59]⟩
/-- An instruction that is read: its number, its label, the reader's place and error. -/
def oneN (T : List Tok) (i : Nat) (op : Int) : Int := if (spanOf op).isSome = true then numV T (i + 1) else 0
def oneI1 (T : List Tok) (i : Nat) (op : Int) : Nat := if (spanOf op).isSome = true then numI T (i + 1) else i + 1
def oneE1 (T : List Tok) (i : Nat) (op : Int) : Int := if (spanOf op).isSome = true then numE T (i + 1) else 0
def oneL (L : Lat) (T : List Tok) (i : Nat) (op : Int) : Int := if op = 1 ∧ oneE1 T i op = 0 then labV L T (oneI1 T i op) else 0
def oneI2 (L : Lat) (T : List Tok) (i : Nat) (op : Int) : Nat := if op = 1 ∧ oneE1 T i op = 0 then labI L T (oneI1 T i op) else oneI1 T i op
def oneE2 (L : Lat) (T : List Tok) (i : Nat) (op : Int) : Int := if op = 1 ∧ oneE1 T i op = 0 then labE L T (oneI1 T i op) else oneE1 T i op
def oneI3 (L : Lat) (T : List Tok) (i : Nat) (op : Int) : Nat := markI T semiB (oneI2 L T i op) (oneE2 L T i op)
def oneE3 (L : Lat) (T : List Tok) (i : Nat) (op : Int) : Int := markE T semiB (oneI2 L T i op) (oneE2 L T i op)
def oneX (L : Lat) (T : List Tok) (i : Nat) (op : Int) : Instr := ⟨op, oneN T i op, oneL L T i op⟩
def oneBad (L : Lat) (T : List Tok) (i : Nat) (op : Int) : Bool := decide (oneE3 L T i op = 0) && !instrOk L.up.length (oneX L T i op)
def oneI (L : Lat) (T : List Tok) (i : Nat) (op : Int) : Nat := if oneBad L T i op = true then i else oneI3 L T i op
def oneE (L : Lat) (T : List Tok) (i : Nat) (op : Int) : Int := if oneBad L T i op = true then 1 else oneE3 L T i op

/-- The result's cells, the instruction's cells. -/
structure XAt (u : World) (R : Nat) (op n l : Int) : Prop where
  x0 : u.cell? ⟨R + 1, 0, none⟩ = some (.int .i64 op)
  x1 : u.cell? ⟨R + 1, 1, none⟩ = some (.int .i64 n)
  x2 : u.cell? ⟨R + 1, 2, none⟩ = some (.int .i64 l)
  g1 : u.frozen? ⟨R + 1, 1, none⟩ = false
  g2 : u.frozen? ⟨R + 1, 2, none⟩ = false
  r0 : u.cell? ⟨R, 0, none⟩ = some (.int .i64 0)
  r1 : u.cell? ⟨R, 1, none⟩ = some (.int .i64 0)
  r2 : u.cell? ⟨R, 2, none⟩ = some (.int .i64 0)
  q0 : u.frozen? ⟨R, 0, none⟩ = false
  q1 : u.frozen? ⟨R, 1, none⟩ = false
  q2 : u.frozen? ⟨R, 2, none⟩ = false
  lt : R + 1 < u.heap.size
theorem XAt.next {u u' : World} {R B : Nat} {op n l : Int} (h : XAt u R op n l) (hb : But B u u') (hB : B < R) : XAt u' R op n l :=
  have h1 := h.lt
  have c := fun (b o : Nat) (h1 : b ≠ B) (h2 : b < u.heap.size) => hb.cell (p := ⟨b, o, none⟩) h1 h2
  have f := fun (b o : Nat) (h1 : b ≠ B) (h2 : b < u.heap.size) => hb.frozen (p := ⟨b, o, none⟩) h1 h2
  ⟨(c _ _ (by omega) (by omega)).trans h.x0, (c _ _ (by omega) (by omega)).trans h.x1, (c _ _ (by omega) (by omega)).trans h.x2, (f _ _ (by omega) (by omega)).trans h.g1, (f _ _ (by omega) (by omega)).trans h.g2,
   (c _ _ (by omega) (by omega)).trans h.r0, (c _ _ (by omega) (by omega)).trans h.r1, (c _ _ (by omega) (by omega)).trans h.r2, (f _ _ (by omega) (by omega)).trans h.q0, (f _ _ (by omega) (by omega)).trans h.q1, (f _ _ (by omega) (by omega)).trans h.q2, Nat.lt_of_lt_of_le h1 hb.size⟩
theorem XAt.setN {u : World} {R : Nat} {op n l : Int} (h : XAt u R op n l) (v : Int) : XAt (u.setCell ⟨R + 1, 1, none⟩ (.int .i64 v)) R op v l := by
  have h1 := h.lt
  refine ⟨?_, World.cell?_setCell_same' u _ _ (by rw [h.x1]; rfl), ?_, ?_, ?_, ?_, ?_, ?_, ?_, ?_, ?_, by simpa [World.setCell] using h1⟩
  · simpa [go_sem] using h.x0
  · simpa [go_sem] using h.x2
  · simpa [World.frozen?_setCell] using h.g1
  · simpa [World.frozen?_setCell] using h.g2
  · simpa [go_sem] using h.r0
  · simpa [go_sem] using h.r1
  · simpa [go_sem] using h.r2
  · simpa [World.frozen?_setCell] using h.q0
  · simpa [World.frozen?_setCell] using h.q1
  · simpa [World.frozen?_setCell] using h.q2
theorem XAt.setL {u : World} {R : Nat} {op n l : Int} (h : XAt u R op n l) (v : Int) : XAt (u.setCell ⟨R + 1, 2, none⟩ (.int .i64 v)) R op n v := by
  have h1 := h.lt
  refine ⟨?_, ?_, World.cell?_setCell_same' u _ _ (by rw [h.x2]; rfl), ?_, ?_, ?_, ?_, ?_, ?_, ?_, ?_, by simpa [World.setCell] using h1⟩
  · simpa [go_sem] using h.x0
  · simpa [go_sem] using h.x1
  · simpa [World.frozen?_setCell] using h.g1
  · simpa [World.frozen?_setCell] using h.g2
  · simpa [go_sem] using h.r0
  · simpa [go_sem] using h.r1
  · simpa [go_sem] using h.r2
  · simpa [World.frozen?_setCell] using h.q0
  · simpa [World.frozen?_setCell] using h.q1
  · simpa [World.frozen?_setCell] using h.q2
/-- The result is laid. -/
def resW (u : World) (R : Nat) (op n l : Int) : World := ((u.setCell ⟨R, 0, none⟩ (.int .i64 op)).setCell ⟨R, 1, none⟩ (.int .i64 n)).setCell ⟨R, 2, none⟩ (.int .i64 l)
theorem XAt.res {u : World} {R : Nat} {op n l : Int} (h : XAt u R op n l) (a b c : Int) : (resW u R a b c).cell? ⟨R, 0, none⟩ = some (.int .i64 a) ∧ (resW u R a b c).cell? ⟨R, 1, none⟩ = some (.int .i64 b) ∧ (resW u R a b c).cell? ⟨R, 2, none⟩ = some (.int .i64 c) := by
  have e0 : (u.setCell ⟨R, 0, none⟩ (.int .i64 a)).cell? ⟨R, 0, none⟩ = some (.int .i64 a) := World.cell?_setCell_same' u _ _ (by rw [h.r0]; rfl)
  have e1 : ((u.setCell ⟨R, 0, none⟩ (.int .i64 a)).setCell ⟨R, 1, none⟩ (.int .i64 b)).cell? ⟨R, 1, none⟩ = some (.int .i64 b) := World.cell?_setCell_same' _ _ _ (by have := h.r1; simp [go_sem, this])
  have e2 : (resW u R a b c).cell? ⟨R, 2, none⟩ = some (.int .i64 c) := World.cell?_setCell_same' _ _ _ (by have := h.r2; simp [go_sem, this])
  refine ⟨?_, ?_, e2⟩
  · simpa [resW, go_sem] using e0
  · simpa [resW, go_sem] using e1
theorem But.setNew {B o X : Nat} {w w' : World} (h : But B w w') (hX : w.heap.size ≤ X) (v : Value) : But B w (w'.setCell ⟨X, o, none⟩ v) :=
  ⟨h.os, h.tape, h.output, by simpa [World.setCell] using h.size, fun k hk hl => (Below.heap_setCell _ _ _ _ (by simp; omega)).trans (h.block k hk hl)⟩
section
variable {w0 : World} {An Au At : Option Addr} {cn cu ct : Nat} {L : Lat} {T : List Tok} {B i : Nat} {bad : Int} {w : World}
theorem RdAt.other (hI : RdIn w0 An cn Au cu L At T B) (h : RdAt w0 An cn Au cu L At ct T B w i bad) {X o : Nat} (hX : B < X) (v : Value) : RdAt w0 An cn Au cu L At ct T B (w.setCell ⟨X, o, none⟩ v) i bad := by
  have hb := hI.base
  have e : ∀ k, (w.setCell ⟨X, o, none⟩ v).cell? ⟨B, k, none⟩ = w.cell? ⟨B, k, none⟩ := fun k => World.cell?_of_block (w := w) (Below.heap_setCell _ _ _ _ (by simp; omega))
  have f : ∀ k, (w.setCell ⟨X, o, none⟩ v).frozen? ⟨B, k, none⟩ = w.frozen? ⟨B, k, none⟩ := fun k => World.frozen?_of_block (w := w) (Below.heap_setCell _ _ _ _ (by simp; omega))
  exact ⟨(e 0).trans h.c0, (e 1).trans h.c1, (e 2).trans h.c2, (e 3).trans h.c3, (e 4).trans h.c4, (f 3).trans h.f3, (f 4).trans h.f4, by simpa [World.setCell] using h.lt, h.below.setCell (p := ⟨X, o, none⟩) (by simp; omega) _, h.place⟩
theorem RdAt.res (hI : RdIn w0 An cn Au cu L At T B) (h : RdAt w0 An cn Au cu L At ct T B w i bad) {R : Nat} (hR : B < R) (a b c : Int) : RdAt w0 An cn Au cu L At ct T B (resW w R a b c) i bad := ((h.other hI hR _).other hI hR _).other hI hR _
theorem But.res {u : World} (h : But B w u) {R : Nat} (hR : w.heap.size ≤ R) (a b c : Int) : But B w (resW u R a b c) := ((h.setNew hR _).setNew hR _).setNew hR _
set_option maxRecDepth 100000 in
set_option maxHeartbeats 2000000 in
theorem one_plain (hI : RdIn w0 An cn Au cu L At T B) (h : RdAt w0 An cn Au cu L At ct T B w i 0) (hi : i + 1 < T.length) {op : Int} (hs : spanOf op = none) :
    Calls Tryd.prog 100 #[.pointer (some ⟨B, 0, none⟩), .int .i64 op] w fun e w' => e = .returned (.agg #[.int .i64 op, .int .i64 (oneN T i op), .int .i64 (oneL L T i op)]) ∧ RdAt w0 An cn Au cu L At ct T B w' (oneI L T i op) (oneE L T i op) ∧ But B w w' := by
  have hlenT := hI.toks.2.1
  have HI := Lib.hid hI
  have HH := Lib.hid h
  have hop1 : (op == 1) = false := by by_cases e : op = 1; (subst e; cases hs); simp [e]
  have HS := Lib.hid hs
  have hlt := h.lt
  have hc3 := h.c3
  have hf3 := h.f3
  have hpl := h.place
  obtain ⟨u0, hu0⟩ : ∃ u, ((w.setCell ⟨B, 3, none⟩ (.int .i64 ((i : Int) + 1))).alloc (.cells #[.int .i64 0, .int .i64 0, .int .i64 0] 51)).alloc (.cells #[.int .i64 op, .int .i64 0, .int .i64 0] 51) = u := ⟨_, rfl⟩
  have HU0 := Lib.hid hu0
  have HR0 := Lib.hid (show RdAt w0 An cn Au cu L At ct T B u0 (i + 1) 0 by rw [← hu0]; exact ((h.place_set hI hi).next (below_new _)).next (below_new _))
  have HB0 := Lib.hid (show But B w u0 by rw [← hu0]; exact (((But.refl B w).set _).step (below_new _)).step (below_new _))
  have HX0 := Lib.hid (show XAt u0 w.heap.size op 0 0 by
    rw [← hu0]
    have hz : (w.setCell ⟨B, 3, none⟩ (.int .i64 ((i : Int) + 1))).heap.size = w.heap.size := by simp [World.setCell]
    constructor <;> simp [go_sem, hz])
  clear hu0 h hI hs
  go_enter Tryd.func100, Tryd.ntmps100
  go_wp2_with fail
  rw [HU0.out]
  refine (number_any op _).mono ?_
  rintro e u1 ⟨rfl, hb1⟩
  have HB1 := Lib.hid (HB0.out.step hb1)
  have HR1 := Lib.hid (HR0.out.next hb1)
  have HX1 := Lib.hid (HX0.out.next (But.of hb1) hlt)
  clear hb1
  have HN : Hid (oneN T i op = 0) := Lib.hid (by simp [oneN, HS.out])
  have HE1 : Hid (oneE1 T i op = 0) := Lib.hid (by simp [oneE1, HS.out])
  have hop : op ≠ 1 := by simpa using hop1
  have HL : Hid (oneL L T i op = 0) := Lib.hid (by simp [oneL, hop])
  have HI2 : Hid (oneI2 L T i op = i + 1) := Lib.hid (by simp [oneI2, hop, oneI1, HS.out])
  have HE2 : Hid (oneE2 L T i op = 0) := Lib.hid (by simp [oneE2, hop, oneE1, HS.out])
  rw [show (spanOf op).isSome = false by rw [HS.out]; rfl]
  clear hop
  go_wp2_with fail
  refine (mark_any HI.out HR1.out semiB).mono ?_
  rintro e v1 ⟨rfl, hr, hb⟩
  have HBv := Lib.hid (HB1.out.trans hb)
  have HXv := Lib.hid (HX1.out.next hb hlt)
  clear hb
  have HI3 : Hid (oneI3 L T i op = markI T semiB (i + 1) 0) := Lib.hid (by rw [oneI3, HI2.out, HE2.out])
  have HE3 : Hid (oneE3 L T i op = markE T semiB (i + 1) 0) := Lib.hid (by rw [oneE3, HI2.out, HE2.out])
  have HX3 : Hid (oneX L T i op = ⟨op, 0, 0⟩) := Lib.hid (by rw [oneX, HN.out, HL.out])
  rw [← HI3.out, ← HE3.out] at hr
  by_cases he3 : oneE3 L T i op = 0
  · rw [he3] at hr
    have HRv := Lib.hid hr
    have hv1 := hr.c1
    have hv3 := hr.c3
    have hv4 := hr.c4
    have hw3 := hr.f3
    have hltv := hr.lt
    have y0 := HXv.out.x0
    have y1 := HXv.out.x1
    have y2 := HXv.out.x2
    have hltx := HXv.out.lt
    clear hr
    cases hok : instrOk L.up.length ⟨op, 0, 0⟩ with
    | true =>
      have HOK := Lib.hid hok
      have HBad := Lib.hid (show oneBad L T i op = false by simp [oneBad, HX3.out, hok])
      have HE := Lib.hid (show oneE L T i op = 0 by simp [oneE, HBad.out, he3])
      have HIx := Lib.hid (show oneI L T i op = oneI3 L T i op by simp [oneI, HBad.out])
      clear hok he3
      go_wp2_with fail
      go_region_held3 (fun w' => w'.cell? ⟨B, 1, none⟩ = some (.slice Au L.up.length cu) ∧ w'.cell? ⟨B, 4, none⟩ = some (.int .i64 0) ∧ w'.cell? ⟨w.heap.size + 1, 0, none⟩ = some (.int .i64 op) ∧ w'.cell? ⟨w.heap.size + 1, 1, none⟩ = some (.int .i64 0) ∧ w'.cell? ⟨w.heap.size + 1, 2, none⟩ = some (.int .i64 0)) (go_keep)
        (first | (go_at_call 33; refine (right_any L.up.length ⟨op, 0, 0⟩ _).mono ?_; rintro e v2 ⟨rfl, hb⟩; rw [HOK.out]
                  have h4 := (HRv.out.next (Below.refl _ _).drew).next hb
                  have hX4 := (HXv.out.next (B := B) (But.of (Below.refl _ _).drew) hlt).next (But.of hb) hlt
                  have HB4 := Lib.hid (((HBv.out.step (Below.refl _ _).drew).step hb))
                  have HR4 := Lib.hid h4
                  have HX4 := Lib.hid hX4
                  have z1 := h4.c1
                  have z3 := h4.c3
                  have z4 := h4.c4
                  have zf3 := h4.f3
                  have zf4 := h4.f4
                  have zlt := h4.lt
                  have zp := h4.place
                  have k0 := hX4.x0
                  have k1 := hX4.x1
                  have k2 := hX4.x2
                  clear h4 hX4 hb))
      have d1 := HX4.out.r1
      have d2 := HX4.out.r2
      have d3 := HX4.out.q0
      have d4 := HX4.out.q1
      have d5 := HX4.out.q2
      have d0 := HX4.out.r0
      have d6 := HX4.out.lt
      have k0 := HX4.out.x0
      have k1 := HX4.out.x1
      have k2 := HX4.out.x2
      have HXR := Lib.hid (HX4.out.res op 0 0)
      go_wp2
      obtain ⟨s0, s1, s2⟩ := HXR.out
      unfold resW at s0 s1 s2
      refine bodyPost_ret (v := .agg #[.int .i64 op, .int .i64 0, .int .i64 0]) (by simp [results, Tryd.f100, go_sem, s0, s1, s2]) rfl ⟨by rw [HN.out, HL.out], ?_, HB4.out.res (Nat.le_refl _) op 0 0⟩
      rw [HIx.out, HE.out]
      exact HR4.out.res HI.out hlt op 0 0
    | false =>
      have HOK := Lib.hid hok
      have HBad := Lib.hid (show oneBad L T i op = true by simp [oneBad, HX3.out, hok, he3])
      have HE := Lib.hid (show oneE L T i op = orE 0 1 by simp [oneE, HBad.out, orE])
      have HIx := Lib.hid (show oneI L T i op = i by simp [oneI, HBad.out])
      have HPl := Lib.hid HH.out.place
      clear hok he3
      go_wp2_with fail
      go_region_held3 (fun w' => w'.cell? ⟨B, 1, none⟩ = some (.slice Au L.up.length cu) ∧ w'.cell? ⟨B, 4, none⟩ = some (.int .i64 0) ∧ w'.cell? ⟨w.heap.size + 1, 0, none⟩ = some (.int .i64 op) ∧ w'.cell? ⟨w.heap.size + 1, 1, none⟩ = some (.int .i64 0) ∧ w'.cell? ⟨w.heap.size + 1, 2, none⟩ = some (.int .i64 0)) (go_keep)
        (first | (go_at_call 33; refine (right_any L.up.length ⟨op, 0, 0⟩ _).mono ?_; rintro e v2 ⟨rfl, hb⟩; rw [HOK.out]
                  have h4 := (HRv.out.next (Below.refl _ _).drew).next hb
                  have hX4 := (HXv.out.next (B := B) (But.of (Below.refl _ _).drew) hlt).next (But.of hb) hlt
                  have HB4 := Lib.hid (((HBv.out.step (Below.refl _ _).drew).step hb))
                  have HR4 := Lib.hid h4
                  have HX4 := Lib.hid hX4
                  have z1 := h4.c1
                  have z3 := h4.c3
                  have z4 := h4.c4
                  have zf3 := h4.f3
                  have zf4 := h4.f4
                  have zlt := h4.lt
                  have zp := h4.place
                  have k0 := hX4.x0
                  have k1 := hX4.x1
                  have k2 := hX4.x2
                  clear h4 hX4 hb))
      have HR5 := Lib.hid (HR4.out.place_set HI.out HPl.out)
      go_wp2_with fail
      refine (fail_any HI.out HR5.out 1).mono ?_
      rintro e v3 ⟨rfl, h6, hb6⟩
      have HR6 := Lib.hid h6
      have HB6 := Lib.hid ((HB4.out.set (.int .i64 i)).trans hb6)
      have HX6 := Lib.hid ((HX4.out.next ((But.refl B v2).set (o := 3) (.int .i64 i)) hlt).next hb6 hlt)
      clear h6 hb6 k0 k1 k2 z1 z3 z4 zf3 zf4 zlt
      have d1 := HX6.out.r1
      have d2 := HX6.out.r2
      have d3 := HX6.out.q0
      have d4 := HX6.out.q1
      have d5 := HX6.out.q2
      have d0 := HX6.out.r0
      have d6 := HX6.out.lt
      have k0 := HX6.out.x0
      have k1 := HX6.out.x1
      have k2 := HX6.out.x2
      have HXR := Lib.hid (HX6.out.res op 0 0)
      go_wp2
      obtain ⟨s0, s1, s2⟩ := HXR.out
      unfold resW at s0 s1 s2
      refine bodyPost_ret (v := .agg #[.int .i64 op, .int .i64 0, .int .i64 0]) (by simp [results, Tryd.f100, go_sem, s0, s1, s2]) rfl ⟨by rw [HN.out, HL.out], ?_, HB6.out.res (Nat.le_refl _) op 0 0⟩
      rw [HIx.out, HE.out]
      exact HR6.out.res HI.out hlt op 0 0
  · have HRv := Lib.hid hr
    have hv4 := hr.c4
    have hltv := hr.lt
    have HBad := Lib.hid (show oneBad L T i op = false by simp [oneBad, he3])
    have HE := Lib.hid (show oneE L T i op = oneE3 L T i op by simp [oneE, HBad.out])
    have HIx := Lib.hid (show oneI L T i op = oneI3 L T i op by simp [oneI, HBad.out])
    have he3' : (oneE3 L T i op == 0) = false := by simpa using he3
    clear hr he3
    go_wp2_with fail
    refine wp_region_later (by kernel_rfl) (by kernel_rfl) ?_
    repeat (first | go_big_quiet_skip | quiet_step (fail))
    refine wpQuiet_nil ?_
    rintro _ ⟨q, rfl⟩
    have HB4 := Lib.hid (HBv.out.step q.below)
    have HR4 := Lib.hid (HRv.out.next q.below)
    have HX4 := Lib.hid (HXv.out.next (B := B) (But.of q.below) hlt)
    generalize q.w = v2 at *
    have d1 := HX4.out.r1
    have d2 := HX4.out.r2
    have d3 := HX4.out.q0
    have d4 := HX4.out.q1
    have d5 := HX4.out.q2
    have d0 := HX4.out.r0
    have d6 := HX4.out.lt
    have k0 := HX4.out.x0
    have k1 := HX4.out.x1
    have k2 := HX4.out.x2
    have HXR := Lib.hid (HX4.out.res op 0 0)
    go_wp2
    obtain ⟨s0, s1, s2⟩ := HXR.out
    unfold resW at s0 s1 s2
    refine bodyPost_ret (v := .agg #[.int .i64 op, .int .i64 0, .int .i64 0]) (by simp [results, Tryd.f100, go_sem, s0, s1, s2]) rfl ⟨by rw [HN.out, HL.out], ?_, HB4.out.res (Nat.le_refl _) op 0 0⟩
    rw [HIx.out, HE.out]
    exact HR4.out.res HI.out hlt op 0 0
end
end Go.Proofs.YtmcafcgbbhcjhaaDoor
