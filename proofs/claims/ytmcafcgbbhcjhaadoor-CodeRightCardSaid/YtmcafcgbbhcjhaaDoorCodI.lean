/- code: the reader's label. -/
import Derived.Test.YtmcafcgbbhcjhaaDoorCodG
namespace Go.Proofs.YtmcafcgbbhcjhaaDoor
open Go.RowKit Go.Shelf Go.Proofs.YtmcafcgbbhcjhaaDoorW.PrintWords
attribute [local go_sem] Oper.semAt_some

/-- A label that is read. -/
def atB : ByteArray := ⟨#[64]⟩
def labI (L : Lat) (T : List Tok) (i : Nat) : Nat := if markOk (tk T i) atB = true then (if (tk T (i + 1)).kind = 1 then (if findE L (tk T (i + 1)).text = 0 then i + 2 else i + 1) else i + 1) else i
def labE (L : Lat) (T : List Tok) (i : Nat) : Int := if markOk (tk T i) atB = true then (if (tk T (i + 1)).kind = 1 then (if findE L (tk T (i + 1)).text = 0 then 0 else 6) else 4) else 4
def labV (L : Lat) (T : List Tok) (i : Nat) : Int := if markOk (tk T i) atB = true then (if (tk T (i + 1)).kind = 1 then (if findE L (tk T (i + 1)).text = 0 then findV L (tk T (i + 1)).text else 0) else 0) else 0
section
variable {w0 : World} {An Au At : Option Addr} {cn cu ct : Nat} {L : Lat} {T : List Tok} {B i : Nat} {w : World}
set_option maxRecDepth 100000 in
set_option maxHeartbeats 2000000 in
theorem label_any (hI : RdIn w0 An cn Au cu L At T B) (h : RdAt w0 An cn Au cu L At ct T B w i 0) :
    Calls Tryd.prog 122 #[.pointer (some ⟨B, 0, none⟩)] w fun e w' => e = .returned (.int .i64 (labV L T i)) ∧ RdAt w0 An cn Au cu L At ct T B w' (labI L T i) (labE L T i) ∧ But B w w' := by
  have hlenT := hI.toks.2.1
  have HI := Lib.hid hI
  have HM := Lib.hid (mark_any hI h atB)
  clear h hI
  go_enter Tryd.func122, Tryd.ntmps122
  go_wp2_with fail
  refine HM.out.mono ?_
  rintro e w1 ⟨rfl, h1, hb1⟩
  cases hmk : markOk (tk T i) atB with
  | false =>
    rw [show markI T atB i 0 = i by simp [markI, hmk], show markE T atB i 0 = 4 by simp [markE, hmk]] at h1
    have HV := Lib.hid (show labV L T i = 0 by simp [labV, hmk])
    have HE := Lib.hid (show labE L T i = 4 by simp [labE, hmk])
    have HX := Lib.hid (show labI L T i = i by simp [labI, hmk])
    have HB1 := Lib.hid hb1
    have HH1 := Lib.hid h1
    clear hmk h1 hb1
    go_wp2_with fail
    refine (tok_any HI.out HH1.out).mono ?_
    rintro e w2 ⟨rfl, hb2⟩
    have h2 := HH1.out.next hb2
    have HH2 := Lib.hid h2
    have HB2 := Lib.hid (HB1.out.step hb2)
    have hc4 := h2.c4
    have hlt := h2.lt
    clear h2 hb2
    go_wp2
    go_ret
    exact ⟨ret_int (by rw [HV.out]), by rw [HX.out, HE.out]; exact HH2.out.next (below_new _), HB2.out.step (below_new _)⟩
  | true =>
    rw [show markI T atB i 0 = i + 1 by simp [markI, hmk], show markE T atB i 0 = 0 by simp [markE, hmk]] at h1
    have HB1 := Lib.hid hb1
    have HH1 := Lib.hid h1
    have HK := Lib.hid hmk
    clear hmk h1 hb1
    go_wp2_with fail
    refine (tok_any HI.out HH1.out).mono ?_
    rintro e w2 ⟨rfl, hb2⟩
    have h2 := HH1.out.next hb2
    have HH2 := Lib.hid h2
    have HB2 := Lib.hid (HB1.out.step hb2)
    have HA2 := Lib.hid (h2.next (below_new (.cells #[.int .i64 (tk T (i + 1)).kind, .string (tk T (i + 1)).text, .int .i64 (tk T (i + 1)).at_] 93)))
    have hc0 := h2.c0
    have hc1 := h2.c1
    have hc3 := h2.c3
    have hf3 := h2.f3
    have hc4 := h2.c4
    have hlt := h2.lt
    have hpl := h2.place
    clear h2 hb2
    by_cases hk : (tk T (i + 1)).kind = 1
    · have hk' : ((tk T (i + 1)).kind != 1) = false := by simp [hk]
      have hr := HI.out.room hpl (by rw [hk]; decide)
      by_cases hf : findE L (tk T (i + 1)).text = 0
      · have HV := Lib.hid (show labV L T i = findV L (tk T (i + 1)).text by simp [labV, HK.out, hk, hf])
        have HE := Lib.hid (show labE L T i = 0 by simp [labE, HK.out, hk, hf])
        have HX := Lib.hid (show labI L T i = i + 2 by simp [labI, HK.out, hk, hf])
        have HF := Lib.hid hf
        clear hk hf
        go_wp2_with fail
        go_region_held3 (fun w' => w'.cell? ⟨B, 0, none⟩ = some (.slice An L.names.length cn) ∧ w'.cell? ⟨B, 1, none⟩ = some (.slice Au L.up.length cu) ∧ w'.cell? ⟨w2.heap.size, 1, none⟩ = some (.string (tk T (i + 1)).text)) (go_keep)
          (first | (go_at_call 138; refine (find_any (HI.out.lat.below HA2.out.below.drew) _).mono ?_; rintro e w3 ⟨rfl, hb3⟩; rw [HF.out]
                    have HB3 := Lib.hid hb3
                    have h3 := (HA2.out.next (Below.refl _ _).drew).next hb3
                    have hd0 := h3.c0
                    have hd1 := h3.c1
                    have hd2 := (hb3.cell (p := ⟨w2.heap.size, 1, none⟩) (by simp)).trans (show _ = some (.string (tk T (i + 1)).text) by simp [go_sem])
                    have hd3 := h3.c3
                    have hg3 := h3.f3
                    have hlt3 := h3.lt
                    have HH3 := Lib.hid h3
                    clear h3 hb3))
        go_wp2
        go_ret
        exact ⟨ret_int (by rw [HV.out]), by rw [HX.out, HE.out]; exact HH3.out.place_set HI.out hr, (((HB2.out.step (below_new _)).step (Below.refl _ _).drew).step HB3.out).set _⟩
      · have HV := Lib.hid (show labV L T i = 0 by simp [labV, HK.out, hk, hf])
        have HE := Lib.hid (show labE L T i = orE 0 6 by simp [labE, HK.out, hk, hf, orE])
        have HX := Lib.hid (show labI L T i = i + 1 by simp [labI, HK.out, hk, hf])
        have hf' : (findE L (tk T (i + 1)).text != 0) = true := by simpa using hf
        clear hk hf
        go_wp2_with fail
        go_region_held3 (fun w' => w'.cell? ⟨B, 0, none⟩ = some (.slice An L.names.length cn) ∧ w'.cell? ⟨B, 1, none⟩ = some (.slice Au L.up.length cu) ∧ w'.cell? ⟨w2.heap.size, 1, none⟩ = some (.string (tk T (i + 1)).text)) (go_keep)
          (first | (go_at_call 138; refine (find_any (HI.out.lat.below HA2.out.below.drew) _).mono ?_; rintro e w3 ⟨rfl, hb3⟩
                    have HB3 := Lib.hid hb3
                    have h3 := (HA2.out.next (Below.refl _ _).drew).next hb3
                    have hd0 := h3.c0
                    have hd1 := h3.c1
                    have hd2 := (hb3.cell (p := ⟨w2.heap.size, 1, none⟩) (by simp)).trans (show _ = some (.string (tk T (i + 1)).text) by simp [go_sem])
                    have hd3 := h3.c3
                    have hg3 := h3.f3
                    have hlt3 := h3.lt
                    have HH3 := Lib.hid h3
                    clear h3 hb3))
        go_wp2_with fail
        refine (fail_any HI.out HH3.out 6).mono ?_
        rintro e w4 ⟨rfl, h4, h5⟩
        have HH4 := Lib.hid h4
        have HB4 := Lib.hid h5
        clear h4 h5
        go_wp2
        go_ret
        exact ⟨ret_int (by rw [HV.out]), by rw [HX.out, HE.out]; exact HH4.out, ((((HB2.out.step (below_new _)).step (Below.refl _ _).drew).step HB3.out)).trans HB4.out⟩
    · have HV := Lib.hid (show labV L T i = 0 by simp [labV, HK.out, hk])
      have HE := Lib.hid (show labE L T i = orE 0 4 by simp [labE, HK.out, hk, orE])
      have HX := Lib.hid (show labI L T i = i + 1 by simp [labI, HK.out, hk])
      have hk' : ((tk T (i + 1)).kind != 1) = true := by simpa using hk
      clear hk
      go_wp2_with fail
      refine (fail_any HI.out HA2.out 4).mono ?_
      rintro e w4 ⟨rfl, h4, h5⟩
      have HH4 := Lib.hid h4
      have HB4 := Lib.hid h5
      clear h4 h5
      go_wp2
      go_ret
      exact ⟨ret_int (by rw [HV.out]), by rw [HX.out, HE.out]; exact HH4.out, (HB2.out.step (below_new _)).trans HB4.out⟩
end
end Go.Proofs.YtmcafcgbbhcjhaaDoor
