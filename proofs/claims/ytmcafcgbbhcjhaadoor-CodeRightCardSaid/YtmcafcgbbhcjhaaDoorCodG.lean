/- code: the reader: tok, fail, mark. -/
import Derived.Test.YtmcafcgbbhcjhaaDoorCodD
namespace Go.Proofs.YtmcafcgbbhcjhaaDoor
open Go.RowKit Go.Shelf Go.Proofs.YtmcafcgbbhcjhaaDoorW.PrintWords
attribute [local go_sem] Oper.semAt_some

/-- Block B aside, what was there is there. -/
structure But (B : Nat) (w w' : World) : Prop where
  os : w'.os = w.os
  tape : w'.tape = w.tape
  output : w'.output = w.output
  size : w.heap.size ≤ w'.heap.size
  block : ∀ k, k ≠ B → k < w.heap.size → w'.heap[k]? = w.heap[k]?
theorem But.refl (B : Nat) (w : World) : But B w w := ⟨rfl, rfl, rfl, Nat.le_refl _, fun _ _ _ => rfl⟩
theorem But.trans {B : Nat} {a b c : World} (h : But B a b) (k : But B b c) : But B a c :=
  ⟨k.os.trans h.os, k.tape.trans h.tape, k.output.trans h.output, Nat.le_trans h.size k.size, fun i hi hl => (k.block i hi (Nat.lt_of_lt_of_le hl h.size)).trans (h.block i hi hl)⟩
theorem But.of {B : Nat} {w w' : World} (h : Below w.heap.size w w') : But B w w' := ⟨h.os, h.tape, h.output, h.size, fun k _ hl => h.block k hl⟩
theorem But.set {B o : Nat} {w w' : World} (h : But B w w') (v : Value) : But B w (w'.setCell ⟨B, o, none⟩ v) :=
  h.trans ⟨rfl, rfl, rfl, by simp [World.setCell], fun k hk _ => Below.heap_setCell _ _ _ _ hk⟩
theorem But.step {B : Nat} {w w1 w2 : World} (h : But B w w1) (k : Below w1.heap.size w1 w2) : But B w w2 := h.trans (But.of k)
theorem But.cell {B : Nat} {w w' : World} (h : But B w w') {p : Addr} (h1 : p.block ≠ B) (h2 : p.block < w.heap.size) : w'.cell? p = w.cell? p := World.cell?_of_block (w := w) (h.block p.block h1 h2)
theorem But.frozen {B : Nat} {w w' : World} (h : But B w w') {p : Addr} (h1 : p.block ≠ B) (h2 : p.block < w.heap.size) : w'.frozen? p = w.frozen? p := World.frozen?_of_block (w := w) (h.block p.block h1 h2)
theorem But.below {B n : Nat} {w w' : World} (h : But B w w') (h1 : n ≤ B) (h2 : n ≤ w.heap.size) : Below n w w' := ⟨h.os, h.tape, h.output, h.size, fun k hk => h.block k (by omega) (by omega)⟩

/-- Tokens' k-th one. -/
def tk (T : List Tok) (k : Nat) : Tok := nth zTok T k
section
variable {w0 : World} {An Au At : Option Addr} {cn cu ct : Nat} {L : Lat} {T : List Tok} {B i : Nat} {bad : Int} {w : World}
/-- What does not change of a reader. -/
structure RdIn (w0 : World) (An : Option Addr) (cn : Nat) (Au : Option Addr) (cu : Nat) (L : Lat) (At : Option Addr) (T : List Tok) (B : Nat) : Prop where
  lat : LatAt w0 An cn Au cu L
  toks : kTok.C w0 At T.length T
  base : w0.heap.size ≤ B
  pos : 0 < T.length
  last : (tk T (T.length - 1)).kind = 0
/-- A reader: its place, and what is wrong. -/
structure RdAt (w0 : World) (An : Option Addr) (cn : Nat) (Au : Option Addr) (cu : Nat) (L : Lat) (At : Option Addr) (ct : Nat) (T : List Tok) (B : Nat) (w : World) (i : Nat) (bad : Int) : Prop where
  c0 : w.cell? ⟨B, 0, none⟩ = some (.slice An L.names.length cn)
  c1 : w.cell? ⟨B, 1, none⟩ = some (.slice Au L.up.length cu)
  c2 : w.cell? ⟨B, 2, none⟩ = some (.slice At T.length ct)
  c3 : w.cell? ⟨B, 3, none⟩ = some (.int .i64 i)
  c4 : w.cell? ⟨B, 4, none⟩ = some (.int .i64 bad)
  f3 : w.frozen? ⟨B, 3, none⟩ = false
  f4 : w.frozen? ⟨B, 4, none⟩ = false
  lt : B < w.heap.size
  below : Below w0.heap.size w0 w
  place : i < T.length
theorem RdAt.next {w' : World} (h : RdAt w0 An cn Au cu L At ct T B w i bad) (hb : Below w.heap.size w w') : RdAt w0 An cn Au cu L At ct T B w' i bad :=
  have hl := h.lt
  ⟨(hb.cell (p := ⟨B, 0, none⟩) hl).trans h.c0, (hb.cell (p := ⟨B, 1, none⟩) hl).trans h.c1, (hb.cell (p := ⟨B, 2, none⟩) hl).trans h.c2, (hb.cell (p := ⟨B, 3, none⟩) hl).trans h.c3, (hb.cell (p := ⟨B, 4, none⟩) hl).trans h.c4,
    (hb.frozen (p := ⟨B, 3, none⟩) hl).trans h.f3, (hb.frozen (p := ⟨B, 4, none⟩) hl).trans h.f4, Nat.lt_of_lt_of_le hl hb.size, below_step h.below h.below.size hb, h.place⟩
theorem RdAt.place_set (hI : RdIn w0 An cn Au cu L At T B) (h : RdAt w0 An cn Au cu L At ct T B w i bad) {j : Nat} (hj : j < T.length) : RdAt w0 An cn Au cu L At ct T B (w.setCell ⟨B, 3, none⟩ (.int .i64 j)) j bad := by
  refine ⟨?_, ?_, ?_, ?_, ?_, ?_, ?_, by simpa [World.setCell] using h.lt, h.below.setCell (p := ⟨B, 3, none⟩) hI.base _, hj⟩
  · simpa [go_sem] using h.c0
  · simpa [go_sem] using h.c1
  · simpa [go_sem] using h.c2
  · exact World.cell?_setCell_same' w _ _ (by rw [h.c3]; rfl)
  · simpa [go_sem] using h.c4
  · simpa [World.frozen?_setCell] using h.f3
  · simpa [World.frozen?_setCell] using h.f4
theorem RdAt.bad_set (hI : RdIn w0 An cn Au cu L At T B) (h : RdAt w0 An cn Au cu L At ct T B w i bad) (e : Int) : RdAt w0 An cn Au cu L At ct T B (w.setCell ⟨B, 4, none⟩ (.int .i64 e)) i e := by
  refine ⟨?_, ?_, ?_, ?_, ?_, ?_, ?_, by simpa [World.setCell] using h.lt, h.below.setCell (p := ⟨B, 4, none⟩) hI.base _, h.place⟩
  · simpa [go_sem] using h.c0
  · simpa [go_sem] using h.c1
  · simpa [go_sem] using h.c2
  · simpa [go_sem] using h.c3
  · exact World.cell?_setCell_same' w _ _ (by rw [h.c4]; rfl)
  · simpa [World.frozen?_setCell] using h.f3
  · simpa [World.frozen?_setCell] using h.f4
set_option maxRecDepth 100000 in
set_option maxHeartbeats 1000000 in
theorem tok_any (hI : RdIn w0 An cn Au cu L At T B) (h : RdAt w0 An cn Au cu L At ct T B w i bad) :
    Calls Tryd.prog 98 #[.pointer (some ⟨B, 0, none⟩)] w fun e w' => e = .returned (.agg #[.int .i64 (tk T i).kind, .string (tk T i).text, .int .i64 (tk T i).at_]) ∧ Below w.heap.size w w' := by
  have hp := h.place
  have hm := hI.toks.2.1
  obtain ⟨ad, rfl, t0, t1, t2, hblk⟩ := at_tok (Kd.C_below hI.toks h.below) hp
  have hc2 := h.c2
  have hc3 := h.c3
  have hlt := h.lt
  have HB := Lib.hid (below_new (w := w) (.cells #[.int .i64 0, .string ByteArray.empty, .int .i64 0] 93))
  clear h hI
  change w.cell? _ = some (.int .i64 (tk T i).kind) at t0
  change w.cell? _ = some (.string (tk T i).text) at t1
  change w.cell? _ = some (.int .i64 (tk T i).at_) at t2
  go_enter Tryd.func98, Tryd.ntmps98
  go_wp2_with fail
  go_region
  go_wp2
  refine bodyPost_ret (v := .agg #[.int .i64 (tk T i).kind, .string (tk T i).text, .int .i64 (tk T i).at_]) (by simp [results, Tryd.f98, go_sem]) rfl ⟨rfl, (below_new _).drew⟩

/-- The first error counts. -/
def orE (bad why : Int) : Int := if bad = 0 then why else bad
set_option maxHeartbeats 400000 in
theorem fail_any (hI : RdIn w0 An cn Au cu L At T B) (h : RdAt w0 An cn Au cu L At ct T B w i bad) (why : Int) :
    Calls Tryd.prog 99 #[.pointer (some ⟨B, 0, none⟩), .int .i64 why] w fun e w' => e = .returned (.tuple #[]) ∧ RdAt w0 An cn Au cu L At ct T B w' i (orE bad why) ∧ But B w w' := by
  have HI := Lib.hid hI
  have HH := Lib.hid h
  have hc4 := h.c4
  have hf4 := h.f4
  have hlt := h.lt
  clear h hI
  by_cases hb : bad = 0
  · have hb' : (bad == 0) = true := by simp [hb]
    have HN := Lib.hid (HH.out.bad_set HI.out why)
    have HE := Lib.hid (show orE bad why = why from if_pos hb)
    clear hb
    go_enter Tryd.func99, Tryd.ntmps99
    go_wp2
    refine bodyPost_end (results_none rfl _ _ _) rfl ?_
    exact ⟨rfl, by rw [HE.out]; exact HN.out, (But.refl _ _).set _⟩
  · have hb' : (bad == 0) = false := by simpa using hb
    have HE := Lib.hid (show orE bad why = bad from if_neg hb)
    clear hb
    go_enter Tryd.func99, Tryd.ntmps99
    go_wp2
    refine bodyPost_end (results_none rfl _ _ _) rfl ?_
    exact ⟨rfl, by rw [HE.out]; exact HH.out, But.refl _ _⟩
/-- A mark is taken: the reader's next place and error. -/
def markOk (t : Tok) (s : ByteArray) : Bool := decide (t.kind = 3) && decide (t.text = s)
def markI (T : List Tok) (s : ByteArray) (i : Nat) (bad : Int) : Nat := if bad = 0 ∧ markOk (tk T i) s = true then i + 1 else i
def markE (T : List Tok) (s : ByteArray) (i : Nat) (bad : Int) : Int := if bad = 0 ∧ markOk (tk T i) s = false then 4 else bad
theorem RdIn.room (hI : RdIn w0 An cn Au cu L At T B) (hi : i < T.length) (hk : (tk T i).kind ≠ 0) : i + 1 < T.length := by
  have hl := hI.last
  by_cases h : i + 1 < T.length
  · exact h
  · exact absurd hl (by rw [show T.length - 1 = i by omega]; exact hk)
set_option maxRecDepth 100000 in
set_option maxHeartbeats 1000000 in
theorem mark_any (hI : RdIn w0 An cn Au cu L At T B) (h : RdAt w0 An cn Au cu L At ct T B w i bad) (s : ByteArray) :
    Calls Tryd.prog 123 #[.pointer (some ⟨B, 0, none⟩), .string s] w fun e w' => e = .returned (.tuple #[]) ∧ RdAt w0 An cn Au cu L At ct T B w' (markI T s i bad) (markE T s i bad) ∧ But B w w' := by
  have hlenT := hI.toks.2.1
  have HI := Lib.hid hI
  have HH := Lib.hid h
  have HT := Lib.hid (tok_any hI h)
  clear h hI
  go_enter Tryd.func123, Tryd.ntmps123
  go_wp2_with fail
  refine HT.out.mono ?_
  rintro e w1 ⟨rfl, hb1⟩
  have h1 := HH.out.next hb1
  have HB1 := Lib.hid hb1
  have HH1 := Lib.hid h1
  have hc3 := h1.c3
  have hc4 := h1.c4
  have hf3 := h1.f3
  have hf4 := h1.f4
  have hlt := h1.lt
  have hpl := h1.place
  have HA := Lib.hid (h1.next (below_new (.cells #[.int .i64 (tk T i).kind, .string (tk T i).text, .int .i64 (tk T i).at_] 93)))
  clear h1 hb1
  by_cases hb : bad = 0
  · have HBd := Lib.hid hb
    have hb' : (bad != 0) = false := by simp [hb]
    clear hb
    by_cases hk : markOk (tk T i) s = true
    · have hk' : ((tk T i).kind != 3) = false := by simp [markOk] at hk; simp [hk.1]
      have hs' : ((tk T i).text.toList == s.toList) = true := by rw [ba_tl]; simp [markOk] at hk; simp [hk.2]
      have hr := HI.out.room hpl (by simp [markOk] at hk; rw [hk.1]; decide)
      have HN := Lib.hid (HH1.out.place_set HI.out hr)
      have H1 := Lib.hid (show markI T s i bad = i + 1 by simp [markI, HBd.out, hk])
      have H2 := Lib.hid (show markE T s i bad = bad by simp [markE, HBd.out, hk])
      clear hk
      go_wp2_with fail
      refine bodyPost_end (results_none rfl _ _ _) rfl ?_
      exact ⟨rfl, by rw [H1.out, H2.out]; exact HN.out.next (below_new _), ((But.of HB1.out).set _).step (below_new _)⟩
    · have hk0 : markOk (tk T i) s = false := by simpa using hk
      have HF := Lib.hid (fail_any HI.out HA.out 4)
      have H1 := Lib.hid (show markI T s i bad = i by simp [markI, hk0])
      have H2 := Lib.hid (show markE T s i bad = orE bad 4 by simp [markE, HBd.out, hk0, orE])
      clear hk
      by_cases hk : (tk T i).kind = 3
      · have hk' : ((tk T i).kind != 3) = false := by simp [hk]
        have hs' : ((tk T i).text.toList == s.toList) = false := by rw [ba_tl]; simp [markOk, hk] at hk0; simp [hk0]
        clear hk hk0
        go_wp2_with fail
        refine HF.out.mono ?_
        rintro e w2 ⟨rfl, h2, h3⟩
        have HH2 := Lib.hid h2
        have HH3 := Lib.hid h3
        clear h2 h3
        go_wp2
        refine bodyPost_end (results_none rfl _ _ _) rfl ?_
        exact ⟨rfl, by rw [H1.out, H2.out]; exact HH2.out, ((But.of HB1.out).step (below_new _)).trans HH3.out⟩
      · have hk' : ((tk T i).kind != 3) = true := by simpa using hk
        clear hk hk0
        go_wp2_with fail
        refine HF.out.mono ?_
        rintro e w2 ⟨rfl, h2, h3⟩
        have HH2 := Lib.hid h2
        have HH3 := Lib.hid h3
        clear h2 h3
        go_wp2
        refine bodyPost_end (results_none rfl _ _ _) rfl ?_
        exact ⟨rfl, by rw [H1.out, H2.out]; exact HH2.out, ((But.of HB1.out).step (below_new _)).trans HH3.out⟩
  · have hb' : (bad != 0) = true := by simpa using hb
    have H1 := Lib.hid (show markI T s i bad = i by simp [markI, hb])
    have H2 := Lib.hid (show markE T s i bad = bad by simp [markE, hb])
    clear hb
    go_wp2
    refine bodyPost_end (results_none rfl _ _ _) rfl ?_
    exact ⟨rfl, by rw [H1.out, H2.out]; exact HA.out, (But.of HB1.out).step (below_new _)⟩
end
end Go.Proofs.YtmcafcgbbhcjhaaDoor
