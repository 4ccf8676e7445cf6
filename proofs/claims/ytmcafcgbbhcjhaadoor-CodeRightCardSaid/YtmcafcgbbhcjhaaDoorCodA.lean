/- code: spans, and which instructions may be. -/
import Derived.Test.YtmcafcgbbhcjhaaDoorLatF
import Derived.Deep.RegionHeld3
import Derived.Maps.Own
namespace Go.Proofs.YtmcafcgbbhcjhaaDoor
open Go.RowKit Go.Shelf Go.Proofs.YtmcafcgbbhcjhaaDoorW.PrintWords
attribute [local go_sem] Oper.semAt_some

/-- A store of a new number into a map. -/
theorem run_insert_new {P : Program} {w w' : World} {t kt et : TypeId} {b : Nat} {k : Int} {es : Array MapEntry} {c : Nat} {v : Value} (ht : P.underlying t = some (.map kt et)) (hkt : P.underlying kt = some (.int .i64))
    (hb : w.heap[b]? = some (.map es c)) (hf : Instr.findNow (.int .i64) (.int .i64 k) es.toList 0 = some none) (hw : w.putObj b (.map (es.push { key := .int .i64 k, val := v, born := c }) (c + 1)) = w') :
    (Instr.mapUpdate t (.map (some b)) (.int .i64 k) v).run P w = .ok () w' := by
  have hi : MapKept.IsKey (.int .i64) (.int .i64 k) := by simp [MapKept.IsKey]
  have h1 := MapKept.run_checkKey (P := P) (w := w) (k := .int .i64 k) hkt hi false 9999
  have h2 := MapKept.run_findKey (P := P) (w := w) hkt hf
  simp [Instr.mapUpdate, run_underlying ht, Result.andThen, h1, h2, MapKept.run_getObj_map hb, MapKept.run_setObj_map _ hb]
  exact hw
theorem run_lookup_there {P : Program} {w : World} {t kt et : TypeId} {b : Nat} {k : Int} {es : Array MapEntry} {c i : Nat} {v : Value} (ht : P.underlying t = some (.map kt et)) (hkt : P.underlying kt = some (.int .i64))
    (hb : w.heap[b]? = some (.map es c)) (hf : Instr.findNow (.int .i64) (.int .i64 k) es.toList 0 = some (some (i, v))) : (Instr.lookup t (.map (some b)) (.int .i64 k) true).run P w = .ok (.tuple #[v, .bool true]) w := by
  have hi : MapKept.IsKey (.int .i64) (.int .i64 k) := by simp [MapKept.IsKey]
  have h1 := MapKept.run_checkKey (P := P) (w := w) (k := .int .i64 k) hkt hi es.isEmpty 9999
  have h2 := MapKept.run_findKey (P := P) (w := w) hkt hf
  simp [Instr.lookup, run_underlying ht, Result.andThen, h1, h2, MapKept.run_getObj_map hb]
theorem run_lookup_none {P : Program} {w : World} {t kt et : TypeId} {b : Nat} {k : Int} {es : Array MapEntry} {c : Nat} {z : Value} (ht : P.underlying t = some (.map kt et)) (hkt : P.underlying kt = some (.int .i64))
    (hb : w.heap[b]? = some (.map es c)) (hf : Instr.findNow (.int .i64) (.int .i64 k) es.toList 0 = some none) (hz : (zeroValue et).run P w = .ok z w) : (Instr.lookup t (.map (some b)) (.int .i64 k) true).run P w = .ok (.tuple #[z, .bool false]) w := by
  have hi : MapKept.IsKey (.int .i64) (.int .i64 k) := by simp [MapKept.IsKey]
  have h1 := MapKept.run_checkKey (P := P) (w := w) (k := .int .i64 k) hkt hi es.isEmpty 9999
  have h2 := MapKept.run_findKey (P := P) (w := w) hkt hf
  simp [Instr.lookup, run_underlying ht, Result.andThen, h1, h2, MapKept.run_getObj_map hb, hz]

/-- A closure 'n is from lo to hi'; where lo and hi lie. -/
def cloV (p : Nat) : Value := .func (.func 95) #[] #[.pointer (some ⟨p, 0, none⟩), .pointer (some ⟨p + 1, 0, none⟩)]
def CloAt (w : World) (p : Nat) (lo hi : Int) : Prop := w.cell? ⟨p, 0, none⟩ = some (.int .i64 lo) ∧ w.cell? ⟨p + 1, 0, none⟩ = some (.int .i64 hi) ∧ p + 1 < w.heap.size
theorem in_any {p : Nat} {lo hi : Int} {w : World} (h : CloAt w p lo hi) (n : Int) :
    Calls Tryd.prog 95 #[.int .i64 n, .pointer (some ⟨p, 0, none⟩), .pointer (some ⟨p + 1, 0, none⟩)] w fun e w' => e = .returned (.bool (decide (lo ≤ n) && decide (n ≤ hi))) ∧ w = w' := by
  obtain ⟨h1, h2, h3⟩ := h
  by_cases hq : lo ≤ n
  · go_enter Tryd.func95, Tryd.ntmps95
    go_wp2
    go_ret
    simp [hq]
  · go_enter Tryd.func95, Tryd.ntmps95
    go_wp2
    go_ret
    exact ⟨ret_bool (by rw [decide_eq_false (Int.not_le.2 hq), Bool.false_and]), rfl⟩
theorem span1_any (lo hi : Int) (w : World) :
    Calls Tryd.prog 94 #[.int .i64 lo, .int .i64 hi] w fun e w' => e = .returned (cloV w.heap.size) ∧ (w.alloc (.cells #[.int .i64 lo] 3)).alloc (.cells #[.int .i64 hi] 3) = w' := by
  go_enter Tryd.func94, Tryd.ntmps94
  go_wp2
  go_ret
  exact ⟨rfl, rfl⟩
/-- A map of closures under way: block b holds 'es'; c of them. -/
structure SpanTo (w : World) (b n : Nat) (es : Array MapEntry) (c : Nat) (w' : World) : Prop where
  map : w'.heap[b]? = some (.map es c)
  size : w'.heap.size = b + 1 + n
  below : Below b w w'
theorem SpanTo.next {w w1 w2 w3 : World} {b n c : Nat} {es es' : Array MapEntry} {lo hi : Int} (h : SpanTo w b n es c w1) (h2 : (w1.alloc (.cells #[.int .i64 lo] 3)).alloc (.cells #[.int .i64 hi] 3) = w2)
    (h3 : w2.putObj b (.map es' (c + 1)) = w3) : w2.heap[b]? = some (.map es c) ∧ SpanTo w b (n + 2) es' (c + 1) w3 ∧ CloAt w3 (b + 1 + n) lo hi ∧ ∀ k, k ≠ b → k < w1.heap.size → w3.heap[k]? = w1.heap[k]? := by
  have hb : b < w1.heap.size := (Array.getElem?_eq_some_iff.1 h.map).1
  have s1 := h.size
  have s2 : w2.heap.size = w1.heap.size + 2 := by rw [← h2]; simp
  have s3 : w3.heap.size = w2.heap.size := by rw [← h3]; simp [World.putObj]
  have k2 : ∀ k, k < w1.heap.size → w2.heap[k]? = w1.heap[k]? := fun k hk => by rw [← h2, Below.heap_alloc _ _ _ (by simp; omega), Below.heap_alloc _ _ _ hk]
  have k3 : ∀ k, k ≠ b → w3.heap[k]? = w2.heap[k]? := fun k hk => by rw [← h3]; exact World.putObj_heap_other hk
  have b2 : Below w1.heap.size w1 w2 := by rw [← h2]; exact below_alloc (below_new _) _
  refine ⟨(k2 b hb).trans h.map, ⟨?_, by omega, ?_⟩, ⟨?_, ?_, by omega⟩, fun k hk hk' => (k3 k hk).trans (k2 k hk')⟩
  · rw [← h3]
    exact World.putObj_heap_same (by omega)
  · refine (h.below.trans (below_le b2 (by omega))).trans ?_
    rw [← h3]
    exact ⟨rfl, rfl, rfl, by simp [World.putObj], fun k hk => World.putObj_heap_other (by omega)⟩
  · rw [World.cell?_of_block (w := w2) (k3 (b + 1 + n) (by omega)), ← h2, show b + 1 + n = w1.heap.size by omega]
    simp [go_sem]
  · rw [World.cell?_of_block (w := w2) (k3 (b + 1 + n + 1) (by omega)), ← h2, show b + 1 + n = w1.heap.size by omega]
    simp [go_sem]
theorem CloAt.kept {w1 w3 : World} {b p : Nat} {lo hi : Int} (h : CloAt w1 p lo hi) (hk : ∀ k, k ≠ b → k < w1.heap.size → w3.heap[k]? = w1.heap[k]?) (hp : b < p) (hs : w1.heap.size ≤ w3.heap.size) : CloAt w3 p lo hi := by
  obtain ⟨h1, h2, h3⟩ := h
  exact ⟨(World.cell?_of_block (w := w1) (hk p (by omega) (by omega))).trans h1, (World.cell?_of_block (w := w1) (hk (p + 1) (by omega) (by omega))).trans h2, by omega⟩
/-- spans' map. -/
def spanEs (b : Nat) : Array MapEntry := #[⟨.int .i64 1, cloV (b + 1 + 0), 0⟩, ⟨.int .i64 8, cloV (b + 1 + 2), 1⟩, ⟨.int .i64 9, cloV (b + 1 + 4), 2⟩, ⟨.int .i64 10, cloV (b + 1 + 6), 3⟩]
structure SpanAt (w : World) (b : Nat) : Prop where
  map : w.heap[b]? = some (.map (spanEs b) 4)
  c1 : CloAt w (b + 1 + 0) (-20) 20
  c8 : CloAt w (b + 1 + 2) 0 12
  c9 : CloAt w (b + 1 + 4) 0 3
  c10 : CloAt w (b + 1 + 6) 0 1
set_option maxRecDepth 100000 in
theorem spans_any (w : World) :
    Calls Tryd.prog 62 #[] w fun e w' => e = .returned (.map (some w.heap.size)) ∧ SpanAt w' w.heap.size ∧ Below w.heap.size w w' := by
  have HM0 : Hid (SpanTo w w.heap.size 0 #[] 0 (w.alloc (.map #[] 0))) := Lib.hid ⟨heap_alloc_new w _, World.size_alloc _ _, below_new _⟩
  have hmm := @run_makeMap Tryd.prog
  go_enter Tryd.func62, Tryd.ntmps62
  go_wp2_with fail
  refine (span1_any (-20) 20 _).mono ?_
  rintro e u1 ⟨rfl, hu1⟩
  obtain ⟨v1, hv1⟩ : ∃ x, x = u1.putObj w.heap.size (.map ((#[] : Array MapEntry).push { key := .int .i64 1, val := cloV (w.heap.size + 1 + 0), born := 0 }) (0 + 1)) := ⟨_, rfl⟩
  obtain ⟨hm1, hs1, hc1, hk1⟩ := HM0.out.next hu1 hv1.symm
  have hr1 := run_insert_new (P := Tryd.prog) Tryd.underlying106 Tryd.underlying3 hm1 rfl hv1.symm
  have HM1 := Lib.hid hs1
  have HC1 := Lib.hid hc1
  have HK1 := Lib.hid hk1
  clear hm1 hs1 hc1 hk1 hu1 hv1
  go_wp2_with fail
  refine (span1_any (0) 12 _).mono ?_
  rintro e u2 ⟨rfl, hu2⟩
  obtain ⟨v2, hv2⟩ : ∃ x, x = u2.putObj w.heap.size (.map ((#[{ key := .int .i64 1, val := cloV (w.heap.size + 1 + 0), born := 0 }] : Array MapEntry).push { key := .int .i64 8, val := cloV (w.heap.size + 1 + 2), born := 1 }) (1 + 1)) := ⟨_, rfl⟩
  obtain ⟨hm2, hs2, hc2, hk2⟩ := HM1.out.next hu2 hv2.symm
  have hr2 : (Instr.mapUpdate 106 (.map (some w.heap.size)) (.int .i64 8) (cloV v1.heap.size)).run Tryd.prog u2 = .ok () v2 := by rw [HM1.out.size]; exact run_insert_new Tryd.underlying106 Tryd.underlying3 hm2 rfl hv2.symm
  have HM2 := Lib.hid hs2
  have HC2 := Lib.hid hc2
  have HK2 := Lib.hid hk2
  clear hm2 hs2 hc2 hk2 hu2 hv2
  go_wp2_with fail
  refine (span1_any (0) 3 _).mono ?_
  rintro e u3 ⟨rfl, hu3⟩
  obtain ⟨v3, hv3⟩ : ∃ x, x = u3.putObj w.heap.size (.map ((#[{ key := .int .i64 1, val := cloV (w.heap.size + 1 + 0), born := 0 }, { key := .int .i64 8, val := cloV (w.heap.size + 1 + 2), born := 1 }] : Array MapEntry).push { key := .int .i64 9, val := cloV (w.heap.size + 1 + 4), born := 2 }) (2 + 1)) := ⟨_, rfl⟩
  obtain ⟨hm3, hs3, hc3, hk3⟩ := HM2.out.next hu3 hv3.symm
  have hr3 : (Instr.mapUpdate 106 (.map (some w.heap.size)) (.int .i64 9) (cloV v2.heap.size)).run Tryd.prog u3 = .ok () v3 := by rw [HM2.out.size]; exact run_insert_new Tryd.underlying106 Tryd.underlying3 hm3 rfl hv3.symm
  have HM3 := Lib.hid hs3
  have HC3 := Lib.hid hc3
  have HK3 := Lib.hid hk3
  clear hm3 hs3 hc3 hk3 hu3 hv3
  go_wp2_with fail
  refine (span1_any (0) 1 _).mono ?_
  rintro e u4 ⟨rfl, hu4⟩
  obtain ⟨v4, hv4⟩ : ∃ x, x = u4.putObj w.heap.size (.map ((#[{ key := .int .i64 1, val := cloV (w.heap.size + 1 + 0), born := 0 }, { key := .int .i64 8, val := cloV (w.heap.size + 1 + 2), born := 1 }, { key := .int .i64 9, val := cloV (w.heap.size + 1 + 4), born := 2 }] : Array MapEntry).push { key := .int .i64 10, val := cloV (w.heap.size + 1 + 6), born := 3 }) (3 + 1)) := ⟨_, rfl⟩
  obtain ⟨hm4, hs4, hc4, hk4⟩ := HM3.out.next hu4 hv4.symm
  have hr4 : (Instr.mapUpdate 106 (.map (some w.heap.size)) (.int .i64 10) (cloV v3.heap.size)).run Tryd.prog u4 = .ok () v4 := by rw [HM3.out.size]; exact run_insert_new Tryd.underlying106 Tryd.underlying3 hm4 rfl hv4.symm
  have HM4 := Lib.hid hs4
  have HC4 := Lib.hid hc4
  have HK4 := Lib.hid hk4
  clear hm4 hs4 hc4 hk4 hu4 hv4
  go_wp2
  go_ret
  have z1 : v1.heap.size ≤ v2.heap.size := by have := HM1.out.size; have := HM2.out.size; omega
  have z2 : v2.heap.size ≤ v3.heap.size := by have := HM2.out.size; have := HM3.out.size; omega
  have z3 : v3.heap.size ≤ v4.heap.size := by have := HM3.out.size; have := HM4.out.size; omega
  refine ⟨rfl, ⟨HM4.out.map, ?_, ?_, ?_, HC4.out⟩, HM4.out.below⟩
  · exact ((HC1.out.kept HK2.out (by omega) z1).kept HK3.out (by omega) z2).kept HK4.out (by omega) z3
  · exact (HC2.out.kept HK3.out (by omega) z2).kept HK4.out (by omega) z3
  · exact HC3.out.kept HK4.out (by omega) z3
end Go.Proofs.YtmcafcgbbhcjhaaDoor
