/- The laws' few: a lattice cut to little more than the limits. -/
import Derived.Test.YtmcafcgbbhcjhaaDoorCodN
import Derived.Lib.MinMax
import Derived.Deep.RegionLaw
import Derived.BigRegion
import Derived.Deep.DeepMust
namespace Go.Proofs.YtmcafcgbbhcjhaaDoor
open Go.RowKit Go.Shelf Go.Proofs.YtmcafcgbbhcjhaaDoorW.PrintWords
attribute [local go_sem] Oper.semAt_some

def sR1 (x : ByteArray) (cs : List Value) : Prop := cs = [.string x]
def cutS (s : ByteArray) : ByteArray := s.extract 0 (min s.size 15)
def cutL (L : Lat) : Lat := ⟨(L.names.take 10).map cutS, L.up.take 10⟩
/-- few's result: its names lie in new memory. -/
def FewPost (w : World) (Au : Option Addr) (cu : Nat) (L : Lat) (e : Ending) (w' : World) : Prop :=
  ∃ v, e = .returned (.agg #[v, .slice Au (cutL L).up.length cu]) ∧ OwnRow sR1 9 1 w' w.heap.size v (cutL L).names ∧ Below w.heap.size w w'
/-- What is made here reads as strings. -/
theorem own_C_str {w : World} {base : Nat} {v : Value} {xs : List ByteArray} (h : OwnRow sR1 9 1 w base v xs) : ∃ A c, v = .slice A xs.length c ∧ xs.length ≤ c ∧ Kd.string.C w A xs.length xs := by
  obtain ⟨A, c, hv, hl, hr⟩ := h.reads
  exact ⟨A, c, hv, hl, hr⟩
theorem C_cut' {α : Type} {d : Kd α} {w : World} {A : Option Addr} {n : Nat} {xs : List α} (h : d.C w A xs.length xs) (hn : n ≤ xs.length) : d.C w A (xs.take n).length (xs.take n) := by
  have e : (xs.take n).length = n := by rw [List.length_take, Nat.min_eq_left hn]
  rw [e]
  exact C_cut h hn
theorem cut_at {w W : World} {An Au : Option Addr} {cn cu base : Nat} {L : Lat} {v : Value} (hL : LatAt w An cn Au cu L) (hb : Below w.heap.size w W) (ho : OwnRow sR1 9 1 W base v (cutL L).names) :
    ∃ An' cn', v = .slice An' (cutL L).names.length cn' ∧ LatAt W An' cn' Au cu (cutL L) := by
  obtain ⟨A2, c2, e2, hl4, hC⟩ := own_C_str ho
  refine ⟨A2, c2, e2, hC, ?_, hl4, ?_, ?_, ?_⟩
  · have h := hL.up
    rcases Nat.le_total L.up.length 10 with h1 | h1
    · show kUp.C W Au (L.up.take 10).length (L.up.take 10)
      rw [List.take_of_length_le h1]
      exact Kd.C_below h hb
    · exact Kd.C_below (C_cut' h h1) hb
  · have := hL.hu
    simp only [cutL, List.length_take]
    omega
  · intro s hs
    obtain ⟨t, -, rfl⟩ := List.mem_map.1 hs
    simp only [cutS, ByteArray.size_extract]; omega
  · intro x hx
    exact hL.small x (List.mem_of_mem_take hx)
/-- few's loop: what is true ahead of each round. -/
structure FewAt (w : World) (Au : Option Addr) (m cu B : Nat) (v : Value) (ys : List ByteArray) (wr : World) : Prop where
  c0 : wr.cell? ⟨B + 1, 0, none⟩ = some v
  c1 : wr.cell? ⟨B + 1, 1, none⟩ = some (.slice Au m cu)
  f0 : wr.frozen? ⟨B + 1, 0, none⟩ = false
  r0 : wr.cell? ⟨B, 0, none⟩ = some (.slice none 0 0)
  r1 : wr.cell? ⟨B, 1, none⟩ = some (.slice none 0 0)
  g0 : wr.frozen? ⟨B, 0, none⟩ = false
  g1 : wr.frozen? ⟨B, 1, none⟩ = false
  lt : B + 1 < wr.heap.size
  own : OwnRow sR1 9 1 wr (B + 2) v ys
  below : Below w.heap.size w wr
theorem FewAt.next {w : World} {Au : Option Addr} {m cu B : Nat} {v v1 : Value} {ys zs : List ByteArray} {wr w1 : World} (h : FewAt w Au m cu B v ys wr) (hw : w.heap.size ≤ B) (hb : Below (B + 2) wr w1) (ho : OwnRow sR1 9 1 w1 (B + 2) v1 zs) :
    FewAt w Au m cu B v1 zs (w1.setCell ⟨B + 1, 0, none⟩ v1) := by
  have k0 := (hb.cell (p := ⟨B + 1, 0, none⟩) (by simp)).trans h.c0
  have k1 := (hb.cell (p := ⟨B + 1, 1, none⟩) (by simp)).trans h.c1
  have k2 := (hb.cell (p := ⟨B, 0, none⟩) (by simp)).trans h.r0
  have k3 := (hb.cell (p := ⟨B, 1, none⟩) (by simp)).trans h.r1
  have l0 := (hb.frozen (p := ⟨B + 1, 0, none⟩) (by simp)).trans h.f0
  have l2 := (hb.frozen (p := ⟨B, 0, none⟩) (by simp)).trans h.g0
  have l3 := (hb.frozen (p := ⟨B, 1, none⟩) (by simp)).trans h.g1
  refine ⟨World.cell?_setCell_same' w1 _ _ (by rw [k0]; rfl), by simpa [go_sem] using k1, by simpa [World.frozen?_setCell] using l0, by simpa [go_sem] using k2, by simpa [go_sem] using k3, by simpa [World.frozen?_setCell] using l2, by simpa [World.frozen?_setCell] using l3, ?_, ?_, ?_⟩
  · have := Nat.lt_of_lt_of_le h.lt hb.size
    simpa [World.setCell] using this
  · exact OwnRow.but ho ((But.refl (B + 1) w1).set v1)
  · exact Below.setCell (h.below.trans (below_le hb (by omega))) (p := ⟨B + 1, 0, none⟩) (by simp; omega) v1
set_option maxRecDepth 100000 in
set_option maxHeartbeats 2000000 in
theorem few_any {w : World} {An Au : Option Addr} {cn cu : Nat} {L : Lat} (hL : LatAt w An cn Au cu L) :
    Calls Tryd.prog 5 #[.agg #[.slice An L.names.length cn, .slice Au L.up.length cu]] w (FewPost w Au cu L) := by
  have hm := hL.lenu
  have hm2 := hL.lenn
  have hn := hL.hn
  have hu := hL.hu
  obtain ⟨m, hme⟩ : ∃ m, m = min L.up.length 10 := ⟨_, rfl⟩
  obtain ⟨n, hne⟩ : ∃ n, n = min L.names.length 10 := ⟨_, rfl⟩
  have hm10 : m ≤ L.up.length := by omega
  have hn10 : n ≤ L.names.length := by omega
  have hnn : n ≤ 10 := by omega
  have hmin1 : min (L.up.length : Int) 10 = (m : Int) := by omega
  have hmin2 : min (L.names.length : Int) 10 = (n : Int) := by omega
  have HLen : Hid ((cutL L).up.length = m ∧ (cutL L).names.length = n ∧ cutL L = ⟨(L.names.take n).map cutS, L.up.take m⟩) := Lib.hid (by
    refine ⟨?_, ?_, ?_⟩
    · simp only [cutL, List.length_take]; omega
    · simp only [cutL, List.length_map, List.length_take]; omega
    · unfold cutL
      rcases Nat.le_total L.up.length 10 with h1 | h1 <;> rcases Nat.le_total L.names.length 10 with h2 | h2
      · rw [hne, hme, Nat.min_eq_left h1, Nat.min_eq_left h2, List.take_of_length_le h1, List.take_of_length_le h2, List.take_length, List.take_length]
      · rw [hne, hme, Nat.min_eq_left h1, Nat.min_eq_right h2, List.take_of_length_le h1, List.take_length]
      · rw [hne, hme, Nat.min_eq_right h1, Nat.min_eq_left h2, List.take_of_length_le h2, List.take_length]
      · rw [hne, hme, Nat.min_eq_right h1, Nat.min_eq_right h2])
  clear hme hne
  have HL := Lib.hid hL
  clear hL
  generalize hWb : (((w.alloc (.cells #[.slice An L.names.length cn, .slice Au L.up.length cu] 25)).alloc (.cells #[.slice none 0 0, .slice none 0 0] 25)).alloc (.cells #[.slice none 0 0, .slice Au m cu] 25)) = WB
  have HWB := Lib.hid hWb
  have HF0 : Hid (FewAt w Au m cu (w.heap.size + 1) (.slice none 0 0) [] WB) := Lib.hid (by
    rw [← hWb]
    exact ⟨by simp [go_sem], by simp [go_sem], by simp [go_sem], by simp [go_sem], by simp [go_sem], by simp [go_sem], by simp [go_sem], by simp, ⟨[], own_nil _ _ _ _, Reps.none _ _⟩, below_alloc (below_alloc (below_new _) _) _⟩)
  clear hWb
  obtain ⟨B, hBe⟩ : ∃ B, B = w.heap.size + 1 := ⟨_, rfl⟩
  have HBe := Lib.hid hBe
  have hwB : w.heap.size ≤ B := by omega
  go_enter Tryd.func5, Tryd.ntmps5
  go_wp2
  rw [HWB.out, ← hBe]
  rw [← hBe] at HF0
  clear hBe
  go_loopw [22] (fun i wr => ∃ k : Nat, k ≤ n ∧ i = .int .i64 k ∧ ∃ v, FewAt w Au m cu B v ((L.names.take k).map cutS) wr) (fun i _ => n - (intOf i).toNat)
  case atStart => exact ⟨0, Nat.zero_le _, rfl, _, HF0.out⟩
  case round =>
    obtain ⟨k, hk, rfl, v, hF⟩ := hrel
    obtain ⟨A', c', rfl, hcap⟩ := hF.own.slice_
    have hln : ((L.names.take k).map cutS).length = k := by rw [List.length_map, List.length_take]; omega
    rw [hln] at hF hcap
    have HLn := Lib.hid hln
    have HF := Lib.hid hF
    have hc0 := hF.c0
    have hf0 := hF.f0
    have hlt := hF.lt
    clear hln hF
    by_cases hkn : k < n
    · obtain ⟨ad, rfl, hc, hblk⟩ := at_str (Kd.C_below HL.out.names HF.out.below) (k := k) (by omega)
      obtain ⟨s, hs⟩ : ∃ s, s = nth ByteArray.empty L.names k := ⟨_, rfl⟩
      rw [← hs] at hc
      have hsz : s.size ≤ 9223372036854775807 := by rw [hs]; exact HL.out.hs _ (nth_mem _ (by omega))
      have HTk : Hid ((L.names.take (k + 1)).map cutS = (L.names.take k).map cutS ++ [cutS s]) := Lib.hid (by rw [take_nth ByteArray.empty (by omega), List.map_append, hs]; rfl)
      clear hs
      obtain ⟨q, hq⟩ : ∃ q, q = min s.size 15 := ⟨_, rfl⟩
      have hq1 : q ≤ s.size := by omega
      have hmin3 : min (s.size : Int) 15 = (q : Int) := by omega
      have HQ : Hid (cutS s = s.extract 0 q) := Lib.hid (by rw [cutS, hq])
      clear hq
      have hsl : ∀ W : World, (Instr.slice 9 (.string s) none (some (.int .i64 (q : Int))) none).run Tryd.prog W = .ok (.string (s.extract 0 q)) W := fun W => by
        have h := @run_slice_string_h Tryd.prog W 9 s Tryd.underlying9 .i64 (q : Int) (by omega) (by omega)
        rwa [show ((q : Int)).toNat = q by omega] at h
      have HO := Lib.hid (OwnRow.below HF.out.own (below_drew (Below.refl _ _)))
      have HBase' : Hid (B + 2 ≤ wr.heap.size) := Lib.hid (by have := HF.out.lt; omega)
      have HBase : Hid (B + 2 ≤ wr.drew.heap.size) := Lib.hid (by have := HF.out.lt; simp; omega)
      have HL16 : Hid ((((L.names.take k).map cutS).length + 1) * 16 ≤ 140737488355328) := Lib.hid (by rw [HLn.out]; omega)
      have HR1 : Hid (sR1 (cutS s) [.string (s.extract 0 q)]) := Lib.hid (by rw [sR1, HQ.out])
      have HC1 : Hid (∀ u ∈ [Value.string (s.extract 0 q)], u.oneCell' = true) := Lib.hid (by intro u hu; simp only [List.mem_cons, List.not_mem_nil, or_false] at hu; subst hu; rfl)
      have HIn : Hid ((Tryd.prog.info? 9).map (fun i => (i.zero, i.size, i.bytes)) = some (some (.string ⟨#[]⟩), 1, 16)) := Lib.hid (by kernel_rfl)
      have HOk2 : Hid (∀ v1 w5, OwnRow sR1 9 1 w5 (B + 2) v1 ((L.names.take k).map cutS ++ [cutS s]) → Below (B + 2) wr.drew w5 → ∃ A1 c1, v1 = .slice A1 (k + 1) c1 ∧ w5.cell? ⟨B + 1, 0, none⟩ = some (.slice A' k c') ∧ w5.frozen? ⟨B + 1, 0, none⟩ = false ∧ FewAt w Au m cu B v1 ((L.names.take (k + 1)).map cutS) (w5.setCell ⟨B + 1, 0, none⟩ v1)) := Lib.hid (fun v1 w5 ho5 hb5 => by
        obtain ⟨A1, c1, hv1, -⟩ := ho5.slice_
        rw [List.length_append, HLn.out, List.length_singleton] at hv1
        have hb6 : Below (B + 2) wr w5 := (below_drew (Below.refl _ _)).trans hb5
        refine ⟨A1, c1, hv1, (hb6.cell (p := ⟨B + 1, 0, none⟩) (by simp)).trans hc0, (hb6.frozen (p := ⟨B + 1, 0, none⟩) (by simp)).trans hf0, HF.out.next hwB hb6 ?_⟩
        rw [HTk.out]
        exact ho5)
      go_wp2_with fail
      go_region_law ((refine OwnRow.append_step (w0 := wr.drew) (R := sR1) (B + 2) (by rfl) _ _ 22 9 (.string ⟨#[]⟩) 1 16 (by rfl) Tryd.underlying22 HIn.out rfl Nat.one_pos (Nat.succ_pos 15) (.slice A' k c') ((L.names.take k).map cutS) (cutS s) [.string (s.extract 0 q)] (by rfl) (by rfl) HR1.out rfl HC1.out HO.out (Below.refl _ _) HBase.out HL16.out ?_; intro v1 w5 ho5 hb5 hg5 hat5; obtain ⟨A1, c1, rfl, hc5, hf5, hF5⟩ := HOk2.out v1 w5 ho5 hb5; clear ho5 hb5 hg5 hat5; have HF5 := Lib.hid hF5; clear hF5))
      all_goals
        go_wp2
        go_roundw
        case rel => exact ⟨k + 1, by omega, by go_num, _, HF5.out⟩
        case measure => simp [intOf]; omega
    · have : k = n := by omega
      subst this
      have hc1 := HF.out.c1
      have hr0 := HF.out.r0
      have hr1 := HF.out.r1
      have hg0 := HF.out.g0
      have hg1 := HF.out.g1
      have HBf : Hid (Below w.heap.size w ((wr.setCell ⟨B, 0, none⟩ (.slice A' k c')).setCell ⟨B, 1, none⟩ (.slice Au m cu))) := Lib.hid (Below.setCell (Below.setCell HF.out.below (p := ⟨B, 0, none⟩) hwB _) (p := ⟨B, 1, none⟩) hwB _)
      have HOf := Lib.hid (OwnRow.but (OwnRow.lower HF.out.own (show B + 1 ≤ B + 2 by omega)) (((But.refl B wr).set (o := 0) (.slice A' k c')).set (o := 1) (.slice Au m cu)))
      obtain ⟨hl1, hl2, hl3⟩ := HLen.out
      have hw1 := World.cell?_setCell_same' wr ⟨B, 0, none⟩ (.slice A' k c') (by rw [hr0]; rfl)
      have hw2 := World.cell?_setCell_same' (wr.setCell ⟨B, 0, none⟩ (.slice A' k c')) ⟨B, 1, none⟩ (.slice Au m cu) (by simp [go_sem, hr1])
      have hw3 : ((wr.setCell ⟨B, 0, none⟩ (.slice A' k c')).setCell ⟨B, 1, none⟩ (.slice Au m cu)).cell? ⟨B, 0, none⟩ = some (.slice A' k c') := by simpa [go_sem] using hw1
      have HP : Hid (FewPost w Au cu L (.returned (.agg #[.slice A' k c', .slice Au m cu])) ((wr.setCell ⟨B, 0, none⟩ (.slice A' k c')).setCell ⟨B, 1, none⟩ (.slice Au m cu))) := Lib.hid (by
        refine ⟨.slice A' k c', by rw [hl1], ?_, HBf.out⟩
        rw [hl3]
        exact HOf.out.lower (by omega))
      clear hw1
      have hw2 := Lib.hid hw2
      have hw3 := Lib.hid hw3
      go_wp2
      refine bodyPost_ret (v := .agg #[.slice A' k c', .slice Au m cu]) (by simp [results, Tryd.f5, go_sem, hw2.out, hw3.out]) rfl HP.out
end Go.Proofs.YtmcafcgbbhcjhaaDoor
