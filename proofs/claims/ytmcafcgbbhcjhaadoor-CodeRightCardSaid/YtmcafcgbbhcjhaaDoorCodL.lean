/- code: the reader's one instruction, with a number. -/
import Derived.Test.YtmcafcgbbhcjhaaDoorCodK
namespace Go.Proofs.YtmcafcgbbhcjhaaDoor
open Go.RowKit Go.Shelf Go.Proofs.YtmcafcgbbhcjhaaDoorW.PrintWords
attribute [local go_sem] Oper.semAt_some

section
variable {w0 : World} {An Au At : Option Addr} {cn cu ct : Nat} {L : Lat} {T : List Tok} {B i : Nat} {bad : Int} {w : World}

/- Some instructions have a number and no label. -/
set_option maxRecDepth 100000 in
set_option maxHeartbeats 2000000 in
theorem one_number (hI : RdIn w0 An cn Au cu L At T B) (h : RdAt w0 An cn Au cu L At ct T B w i 0) (hi : i + 1 < T.length) {op : Int} {lo hi' : Int} (hs : spanOf op = some (lo, hi')) (hop : op ≠ 1) :
    Calls Tryd.prog 100 #[.pointer (some ⟨B, 0, none⟩), .int .i64 op] w fun e w' => e = .returned (.agg #[.int .i64 op, .int .i64 (oneN T i op), .int .i64 (oneL L T i op)]) ∧ RdAt w0 An cn Au cu L At ct T B w' (oneI L T i op) (oneE L T i op) ∧ But B w w' := by
  have hlenT := hI.toks.2.1
  have HI := Lib.hid hI
  have HH := Lib.hid h
  have hop1 : (op == 1) = false := by simpa using hop
  have HS := Lib.hid hs
  have hlt := h.lt
  have hc3 := h.c3
  have hf3 := h.f3
  have hpl := h.place
  obtain ⟨u0, hu0⟩ : ∃ u, ((w.setCell ⟨B, 3, none⟩ (.int .i64 ((i : Int) + 1))).alloc (.cells #[.int .i64 0, .int .i64 0, .int .i64 0] 51)).alloc (.cells #[.int .i64 op, .int .i64 0, .int .i64 0] 51) = u := ⟨_, rfl⟩
  have HU0 := Lib.hid hu0
  have HR0 := Lib.hid (show RdAt w0 An cn Au cu L At ct T B u0 (i + 1) 0 by rw [← hu0]; exact ((h.place_set hI hi).next (below_new _)).next (below_new _))
  have HB0 := Lib.hid (show But B w u0 by rw [← hu0]; exact (((But.refl B w).set _).step (below_new _)).step (below_new _))
  have HX0 := Lib.hid (show XAt u0 w.heap.size op 0 0 by
    rw [← hu0]
    have hz : (w.setCell ⟨B, 3, none⟩ (.int .i64 ((i : Int) + 1))).heap.size = w.heap.size := by simp [World.setCell]
    constructor <;> simp [go_sem, hz])
  clear hu0 h hI hs
  go_enter Tryd.func100, Tryd.ntmps100
  go_wp2_with fail
  rw [HU0.out]
  refine (number_any op _).mono ?_
  rintro e u1 ⟨rfl, hb1⟩
  have HB1 := Lib.hid (HB0.out.step hb1)
  have HR1 := Lib.hid (HR0.out.next hb1)
  have HX1 := Lib.hid (HX0.out.next (But.of hb1) hlt)
  clear hb1
  rw [show (spanOf op).isSome = true by rw [HS.out]; rfl]
  go_wp2_with fail
  refine (number_any' HI.out HR1.out).mono ?_
  rintro e u2 ⟨rfl, hr, hb⟩
  have HR2 := Lib.hid (hr.other HI.out (X := w.heap.size + 1) (o := 1) (by omega) (.int .i64 (numV T (i + 1))))
  have HB2 := Lib.hid ((HB1.out.trans hb).setNew (X := w.heap.size + 1) (o := 1) (by omega) (.int .i64 (numV T (i + 1))))
  have hx := HX1.out.next hb hlt
  have HX2 := Lib.hid (hx.setN (numV T (i + 1)))
  have y1' := hx.x1
  have yg1' := hx.g1
  clear hr hb hx
  have hq4 := HR2.out.c4
  have hqlt := HR2.out.lt
  have HN : Hid (oneN T i op = numV T (i + 1)) := Lib.hid (by simp [oneN, HS.out])
  have HL : Hid (oneL L T i op = 0) := Lib.hid (by simp [oneL, hop])
  have HI2 : Hid (oneI2 L T i op = numI T (i + 1)) := Lib.hid (by simp [oneI2, hop, oneI1, HS.out])
  have HE2 : Hid (oneE2 L T i op = numE T (i + 1)) := Lib.hid (by simp [oneE2, hop, oneE1, HS.out])
  clear hop
  go_wp2_with fail
  refine (mark_any HI.out HR2.out semiB).mono ?_
  rintro e v1 ⟨rfl, hr, hb⟩
  have HBv := Lib.hid (HB2.out.trans hb)
  have HXv := Lib.hid (HX2.out.next hb hlt)
  clear hb
  have HI3 : Hid (oneI3 L T i op = markI T semiB (numI T (i + 1)) (numE T (i + 1))) := Lib.hid (by rw [oneI3, HI2.out, HE2.out])
  have HE3 : Hid (oneE3 L T i op = markE T semiB (numI T (i + 1)) (numE T (i + 1))) := Lib.hid (by rw [oneE3, HI2.out, HE2.out])
  have HX3 : Hid (oneX L T i op = ⟨op, (numV T (i + 1)), 0⟩) := Lib.hid (by rw [oneX, HN.out, HL.out])
  rw [← HI3.out, ← HE3.out] at hr
  by_cases he3 : oneE3 L T i op = 0
  · rw [he3] at hr
    have HRv := Lib.hid hr
    have hv1 := hr.c1
    have hv3 := hr.c3
    have hv4 := hr.c4
    have hw3 := hr.f3
    have hltv := hr.lt
    have y0 := HXv.out.x0
    have y1 := HXv.out.x1
    have y2 := HXv.out.x2
    have hltx := HXv.out.lt
    clear hr
    cases hok : instrOk L.up.length ⟨op, (numV T (i + 1)), 0⟩ with
    | true =>
      have HOK := Lib.hid hok
      have HBad := Lib.hid (show oneBad L T i op = false by simp [oneBad, HX3.out, hok])
      have HE := Lib.hid (show oneE L T i op = 0 by simp [oneE, HBad.out, he3])
      have HIx := Lib.hid (show oneI L T i op = oneI3 L T i op by simp [oneI, HBad.out])
      clear hok he3
      go_wp2_with fail
      go_region_held3 (fun w' => w'.cell? ⟨B, 1, none⟩ = some (.slice Au L.up.length cu) ∧ w'.cell? ⟨B, 4, none⟩ = some (.int .i64 0) ∧ w'.cell? ⟨w.heap.size + 1, 0, none⟩ = some (.int .i64 op) ∧ w'.cell? ⟨w.heap.size + 1, 1, none⟩ = some (.int .i64 (numV T (i + 1))) ∧ w'.cell? ⟨w.heap.size + 1, 2, none⟩ = some (.int .i64 0)) (go_keep)
        (first | (go_at_call 33; refine (right_any L.up.length ⟨op, (numV T (i + 1)), 0⟩ _).mono ?_; rintro e v2 ⟨rfl, hb⟩; rw [HOK.out]
                  have h4 := (HRv.out.next (Below.refl _ _).drew).next hb
                  have hX4 := (HXv.out.next (B := B) (But.of (Below.refl _ _).drew) hlt).next (But.of hb) hlt
                  have HB4 := Lib.hid (((HBv.out.step (Below.refl _ _).drew).step hb))
                  have HR4 := Lib.hid h4
                  have HX4 := Lib.hid hX4
                  have z1 := h4.c1
                  have z3 := h4.c3
                  have z4 := h4.c4
                  have zf3 := h4.f3
                  have zf4 := h4.f4
                  have zlt := h4.lt
                  have zp := h4.place
                  have k0 := hX4.x0
                  have k1 := hX4.x1
                  have k2 := hX4.x2
                  clear h4 hX4 hb))
      have d1 := HX4.out.r1
      have d2 := HX4.out.r2
      have d3 := HX4.out.q0
      have d4 := HX4.out.q1
      have d5 := HX4.out.q2
      have d0 := HX4.out.r0
      have d6 := HX4.out.lt
      have k0 := HX4.out.x0
      have k1 := HX4.out.x1
      have k2 := HX4.out.x2
      have HXR := Lib.hid (HX4.out.res op (numV T (i + 1)) 0)
      go_wp2
      obtain ⟨s0, s1, s2⟩ := HXR.out
      unfold resW at s0 s1 s2
      refine bodyPost_ret (v := .agg #[.int .i64 op, .int .i64 (numV T (i + 1)), .int .i64 0]) (by simp [results, Tryd.f100, go_sem, s0, s1, s2]) rfl ⟨by rw [HN.out, HL.out], ?_, HB4.out.res (Nat.le_refl _) op (numV T (i + 1)) 0⟩
      rw [HIx.out, HE.out]
      exact HR4.out.res HI.out hlt op (numV T (i + 1)) 0
    | false =>
      have HOK := Lib.hid hok
      have HBad := Lib.hid (show oneBad L T i op = true by simp [oneBad, HX3.out, hok, he3])
      have HE := Lib.hid (show oneE L T i op = orE 0 1 by simp [oneE, HBad.out, orE])
      have HIx := Lib.hid (show oneI L T i op = i by simp [oneI, HBad.out])
      have HPl := Lib.hid HH.out.place
      clear hok he3
      go_wp2_with fail
      go_region_held3 (fun w' => w'.cell? ⟨B, 1, none⟩ = some (.slice Au L.up.length cu) ∧ w'.cell? ⟨B, 4, none⟩ = some (.int .i64 0) ∧ w'.cell? ⟨w.heap.size + 1, 0, none⟩ = some (.int .i64 op) ∧ w'.cell? ⟨w.heap.size + 1, 1, none⟩ = some (.int .i64 (numV T (i + 1))) ∧ w'.cell? ⟨w.heap.size + 1, 2, none⟩ = some (.int .i64 0)) (go_keep)
        (first | (go_at_call 33; refine (right_any L.up.length ⟨op, (numV T (i + 1)), 0⟩ _).mono ?_; rintro e v2 ⟨rfl, hb⟩; rw [HOK.out]
                  have h4 := (HRv.out.next (Below.refl _ _).drew).next hb
                  have hX4 := (HXv.out.next (B := B) (But.of (Below.refl _ _).drew) hlt).next (But.of hb) hlt
                  have HB4 := Lib.hid (((HBv.out.step (Below.refl _ _).drew).step hb))
                  have HR4 := Lib.hid h4
                  have HX4 := Lib.hid hX4
                  have z1 := h4.c1
                  have z3 := h4.c3
                  have z4 := h4.c4
                  have zf3 := h4.f3
                  have zf4 := h4.f4
                  have zlt := h4.lt
                  have zp := h4.place
                  have k0 := hX4.x0
                  have k1 := hX4.x1
                  have k2 := hX4.x2
                  clear h4 hX4 hb))
      have HR5 := Lib.hid (HR4.out.place_set HI.out HPl.out)
      go_wp2_with fail
      refine (fail_any HI.out HR5.out 1).mono ?_
      rintro e v3 ⟨rfl, h6, hb6⟩
      have HR6 := Lib.hid h6
      have HB6 := Lib.hid ((HB4.out.set (.int .i64 i)).trans hb6)
      have HX6 := Lib.hid ((HX4.out.next ((But.refl B v2).set (o := 3) (.int .i64 i)) hlt).next hb6 hlt)
      clear h6 hb6 k0 k1 k2 z1 z3 z4 zf3 zf4 zlt
      have d1 := HX6.out.r1
      have d2 := HX6.out.r2
      have d3 := HX6.out.q0
      have d4 := HX6.out.q1
      have d5 := HX6.out.q2
      have d0 := HX6.out.r0
      have d6 := HX6.out.lt
      have k0 := HX6.out.x0
      have k1 := HX6.out.x1
      have k2 := HX6.out.x2
      have HXR := Lib.hid (HX6.out.res op (numV T (i + 1)) 0)
      go_wp2
      obtain ⟨s0, s1, s2⟩ := HXR.out
      unfold resW at s0 s1 s2
      refine bodyPost_ret (v := .agg #[.int .i64 op, .int .i64 (numV T (i + 1)), .int .i64 0]) (by simp [results, Tryd.f100, go_sem, s0, s1, s2]) rfl ⟨by rw [HN.out, HL.out], ?_, HB6.out.res (Nat.le_refl _) op (numV T (i + 1)) 0⟩
      rw [HIx.out, HE.out]
      exact HR6.out.res HI.out hlt op (numV T (i + 1)) 0
  · have HRv := Lib.hid hr
    have hv4 := hr.c4
    have hltv := hr.lt
    have HBad := Lib.hid (show oneBad L T i op = false by simp [oneBad, he3])
    have HE := Lib.hid (show oneE L T i op = oneE3 L T i op by simp [oneE, HBad.out])
    have HIx := Lib.hid (show oneI L T i op = oneI3 L T i op by simp [oneI, HBad.out])
    have he3' : (oneE3 L T i op == 0) = false := by simpa using he3
    clear hr he3
    go_wp2_with fail
    refine wp_region_later (by kernel_rfl) (by kernel_rfl) ?_
    repeat (first | go_big_quiet_skip | quiet_step (fail))
    refine wpQuiet_nil ?_
    rintro _ ⟨q, rfl⟩
    have HB4 := Lib.hid (HBv.out.step q.below)
    have HR4 := Lib.hid (HRv.out.next q.below)
    have HX4 := Lib.hid (HXv.out.next (B := B) (But.of q.below) hlt)
    generalize q.w = v2 at *
    have d1 := HX4.out.r1
    have d2 := HX4.out.r2
    have d3 := HX4.out.q0
    have d4 := HX4.out.q1
    have d5 := HX4.out.q2
    have d0 := HX4.out.r0
    have d6 := HX4.out.lt
    have k0 := HX4.out.x0
    have k1 := HX4.out.x1
    have k2 := HX4.out.x2
    have HXR := Lib.hid (HX4.out.res op (numV T (i + 1)) 0)
    go_wp2
    obtain ⟨s0, s1, s2⟩ := HXR.out
    unfold resW at s0 s1 s2
    refine bodyPost_ret (v := .agg #[.int .i64 op, .int .i64 (numV T (i + 1)), .int .i64 0]) (by simp [results, Tryd.f100, go_sem, s0, s1, s2]) rfl ⟨by rw [HN.out, HL.out], ?_, HB4.out.res (Nat.le_refl _) op (numV T (i + 1)) 0⟩
    rw [HIx.out, HE.out]
    exact HR4.out.res HI.out hlt op (numV T (i + 1)) 0
end
end Go.Proofs.YtmcafcgbbhcjhaaDoor
