/- reticentlaw08: CodeRight: it answers true, and changes nothing that lay there. -/
import Derived.Test.YtmcafcgbbhcjhaaDoorWLast
import Derived.Test.YtmcafcgbbhcjhaaDoorLawC
import Derived.Test.YtmcafcgbbhcjhaaDoorCodP
import Derived.Test.YtmcafcgbbhcjhaaDoorRefA
import Derived.Test.YtmcafcgbbhcjhaaDoorRefE
import Derived.Test.YtmcafcgbbhcjhaaDoorRefL
namespace Go.Proofs.YtmcafcgbbhcjhaaDoor
open Go.RowKit Go.Shelf Go.Proofs.YtmcafcgbbhcjhaaDoorW.PrintWords Go.Proofs.YtmcafcgbbhcjhaaDoorW.PrintLast
attribute [local go_sem] Oper.semAt_some

theorem rRight_same {L : Lat} {code : List Instr} (h : checkE L = 0) : rRightB L code = rightB L code := by
  unfold rRightB rightB
  rw [h]
  simp [Bool.and_comm]
theorem right_bad {L : Lat} {code : List Instr} (h : checkE L ≠ 0) : rightB L code = false := by
  unfold rightB
  rw [decide_eq_false h]
  rfl
/-- What CodeRight's calls answer, from a world on: the text and its error, why the lattice may not be, whether the program may. -/
structure CrAt (W : World) (LV : Value) (AV BV : Value) (tv : ByteArray) (te ce : Int) (rr rb eq : Bool) : Prop where
  text : ∀ i : Aft W, Calls Tryd.prog 6 #[LV, AV] i.w fun e w' => e = .returned (.tuple #[.string tv, .int .i64 te]) ∧ Below i.w.heap.size i.w w'
  check : ∀ i : Aft W, Calls Tryd.prog 7 #[LV] i.w fun e w' => e = .returned (.int .i64 ce) ∧ Below i.w.heap.size i.w w'
  rright : ∀ i : Aft W, Calls Tryd.prog 8 #[LV, AV] i.w fun e w' => e = .returned (.bool rr) ∧ Below i.w.heap.size i.w w'
  right : ∀ i : Aft W, Calls Tryd.prog 9 #[LV, AV] i.w fun e w' => e = .returned (.bool rb) ∧ Below i.w.heap.size i.w w'
  like : ∀ i : Aft W, Calls Tryd.prog 10 #[AV, BV] i.w fun e w' => e = .returned (.bool eq) ∧ Below i.w.heap.size i.w w'
  same : ∀ i : Aft W, Calls Tryd.prog 11 #[AV, BV] i.w fun e w' => e = .returned (.bool eq) ∧ Below i.w.heap.size i.w w'
  self : ∀ i : Aft W, Calls Tryd.prog 10 #[AV, AV] i.w fun e w' => e = .returned (.bool true) ∧ Below i.w.heap.size i.w w'
  alive : ∀ i : Aft W, Calls Tryd.prog 12 #[] i.w fun e w' => e = .returned (.bool true) ∧ Below i.w.heap.size i.w w'
set_option maxRecDepth 100000 in
set_option maxHeartbeats 4000000 in
theorem codeRight_any {w : World} {An Au Aa Ab : Option Addr} {cn cu ca cb : Nat} {L : Lat} {a b : List Instr} (hW : WordsAt w) (hL : LatAt w An cn Au cu L) (ha : kInstr.C w Aa a.length a) (hb : kInstr.C w Ab b.length b) (hca : a.length ≤ ca) (hcb : b.length ≤ cb) :
    Calls Tryd.prog 3 #[.agg #[.slice An L.names.length cn, .slice Au L.up.length cu], .slice Aa a.length ca, .slice Ab b.length cb] w fun e w' => e = .returned (.bool true) ∧ Below w.heap.size w w' := by
  have hma := ha.2.1
  have hmb := hb.2.1
  obtain ⟨m, hme⟩ : ∃ m, m = min a.length 15 := ⟨_, rfl⟩
  obtain ⟨n, hne⟩ : ∃ n, n = min b.length 15 := ⟨_, rfl⟩
  have hm1 : m ≤ a.length := by omega
  have hn1 : n ≤ b.length := by omega
  have hmin1 : min (a.length : Int) 15 = (m : Int) := by omega
  have hmin2 : min (b.length : Int) 15 = (n : Int) := by omega
  have hmc : m ≤ ca := by omega
  have hnc : n ≤ cb := by omega
  have HL := Lib.hid hL
  have HW := Lib.hid hW
  have HA := Lib.hid (C_cut' ha hm1)
  have HB := Lib.hid (C_cut' hb hn1)
  have HLa := Lib.hid (show (a.take m).length = m by rw [List.length_take]; omega)
  have HLb := Lib.hid (show (b.take n).length = n by rw [List.length_take]; omega)
  clear hL hW ha hb hme hne
  generalize hWb : w.alloc (.cells #[.slice An L.names.length cn, .slice Au L.up.length cu] 25) = WB
  have HWB := Lib.hid hWb
  have HB0 := Lib.hid (show Below w.heap.size w WB by rw [← hWb]; exact below_new _)
  have hsz : w.heap.size < WB.heap.size := by rw [← hWb]; simp
  have hc0 : WB.cell? ⟨w.heap.size, 0, none⟩ = some (.slice An L.names.length cn) := by rw [← hWb]; simp [go_sem]
  have hc1 : WB.cell? ⟨w.heap.size, 1, none⟩ = some (.slice Au L.up.length cu) := by rw [← hWb]; simp [go_sem]
  have hf0 : WB.frozen? ⟨w.heap.size, 0, none⟩ = false := by rw [← hWb]; simp [go_sem]
  have hf1 : WB.frozen? ⟨w.heap.size, 1, none⟩ = false := by rw [← hWb]; simp [go_sem]
  have HLB := Lib.hid (HL.out.below HB0.out)
  clear hWb
  go_enter Tryd.func3, Tryd.ntmps3
  go_wp2_with fail
  rw [HWB.out]
  refine start_ (n := 15) (S := fun w' => w'.cell? ⟨w.heap.size, 0, none⟩ = some (.slice An L.names.length cn) ∧ w'.cell? ⟨w.heap.size, 1, none⟩ = some (.slice Au L.up.length cu)) (ds := [12]) #[false, false, false, false, false, false, false, false, false, false, false, false, false, false, false] (by kernel_rfl) rfl rfl ⟨hc0, hc1⟩ (fun hHeld => ?_)
  refine pure_ (i := 2) (N := some 13) (v := ?_) (a' := ?_) #[false, false, true, false, false, false, false, false, false, false, false, false, false, false, false] rfl rfl (by kernel_rfl) (fun _ _ _ h => h) (Or.inl ⟨by rfl, ?_⟩) ?_ ?_
  rotate_left
  · intro w'
    go_simp
    with_reducible rfl
  rotate_left
  · simp only [Act.put, List.setIfInBounds_toArray, List.set_cons_zero, List.set_cons_succ]
    rfl
  refine pure_ (i := 3) (N := some 14) (v := ?_) (a' := ?_) #[false, false, true, true, false, false, false, false, false, false, false, false, false, false, false] rfl rfl (by kernel_rfl) (fun _ _ _ h => h) (Or.inl ⟨by rfl, ?_⟩) ?_ ?_
  rotate_left
  · intro w'
    go_simp
    with_reducible rfl
  rotate_left
  · simp only [Act.put, List.setIfInBounds_toArray, List.set_cons_zero, List.set_cons_succ]
    rfl
  refine pure_ (i := 4) (N := some 15) (v := ?_) (a' := ?_) #[false, false, true, true, true, false, false, false, false, false, false, false, false, false, false] rfl rfl (by kernel_rfl) (fun _ _ _ h => h) (Or.inl ⟨by rfl, ?_⟩) ?_ ?_
  rotate_left
  · intro w'
    go_simp
    with_reducible rfl
  rotate_left
  · simp only [Act.put, List.setIfInBounds_toArray, List.set_cons_zero, List.set_cons_succ]
    rfl
  refine pure_ (i := 5) (N := some 16) (v := ?_) (a' := ?_) #[false, false, true, true, true, true, false, false, false, false, false, false, false, false, false] rfl rfl (by kernel_rfl) (fun _ _ _ h => h) (Or.inl ⟨by rfl, ?_⟩) ?_ ?_
  rotate_left
  · intro w'
    go_simp
    with_reducible rfl
  rotate_left
  · simp only [Act.put, List.setIfInBounds_toArray, List.set_cons_zero, List.set_cons_succ]
    rfl
  refine pure_ (i := 6) (N := some 17) (v := ?_) (a' := ?_) #[false, false, true, true, true, true, true, false, false, false, false, false, false, false, false] rfl rfl (by kernel_rfl) (fun _ _ _ h => h) (Or.inl ⟨by rfl, ?_⟩) ?_ ?_
  rotate_left
  · intro w'
    go_simp
    with_reducible rfl
  rotate_left
  · simp only [Act.put, List.setIfInBounds_toArray, List.set_cons_zero, List.set_cons_succ]
    rfl
  refine pure_ (i := 7) (N := some 18) (v := ?_) (a' := ?_) #[false, false, true, true, true, true, true, true, false, false, false, false, false, false, false] rfl rfl (by kernel_rfl) (fun _ _ _ h => h) (Or.inl ⟨by rfl, ?_⟩) ?_ ?_
  rotate_left
  · intro w'
    go_simp
    with_reducible rfl
  rotate_left
  · simp only [Act.put, List.setIfInBounds_toArray, List.set_cons_zero, List.set_cons_succ]
    rfl
  refine pure_ (i := 8) (N := some 19) (v := ?_) (a' := ?_) #[false, false, true, true, true, true, true, true, true, false, false, false, false, false, false] rfl rfl (by kernel_rfl) (fun _ _ _ h => h) (Or.inl ⟨by rfl, ?_⟩) ?_ ?_
  rotate_left
  · intro w'
    go_simp
    with_reducible rfl
  rotate_left
  · simp only [Act.put, List.setIfInBounds_toArray, List.set_cons_zero, List.set_cons_succ]
    rfl
  refine pure_ (i := 9) (N := some 20) (v := ?_) (a' := ?_) #[false, false, true, true, true, true, true, true, true, true, false, false, false, false, false] rfl rfl (by kernel_rfl) (fun _ _ _ h => h) (Or.inl ⟨by rfl, ?_⟩) ?_ ?_
  rotate_left
  · intro w'
    go_simp
    with_reducible rfl
  rotate_left
  · simp only [Act.put, List.setIfInBounds_toArray, List.set_cons_zero, List.set_cons_succ]
    rfl
  refine pure_ (i := 10) (N := some 21) (v := ?_) (a' := ?_) #[false, false, true, true, true, true, true, true, true, true, true, false, false, false, false] rfl rfl (by kernel_rfl) (fun _ _ _ h => h) (Or.inl ⟨by rfl, ?_⟩) ?_ ?_
  rotate_left
  · intro w'
    go_simp
    with_reducible rfl
  rotate_left
  · simp only [Act.put, List.setIfInBounds_toArray, List.set_cons_zero, List.set_cons_succ]
    rfl
  refine pure_ (i := 11) (N := some 22) (v := ?_) (a' := ?_) #[false, false, true, true, true, true, true, true, true, true, true, true, false, false, false] rfl rfl (by kernel_rfl) (fun _ _ _ h => h) (Or.inl ⟨by rfl, ?_⟩) ?_ ?_
  rotate_left
  · intro w'
    go_simp
    with_reducible rfl
  rotate_left
  · simp only [Act.put, List.setIfInBounds_toArray, List.set_cons_zero, List.set_cons_succ]
    rfl
  refine take_ (i := 0) (N := some 11) (v := ?_) (a' := ?_) #[true, false, true, true, true, true, true, true, true, true, true, true, false, false, false] rfl rfl (by kernel_rfl) (fun _ _ _ h => h) (Or.inl ⟨by rfl, ?_⟩) hHeld ?_ ?_
  rotate_left
  · rintro w' ⟨s0, s1⟩
    go_simp
    with_reducible rfl
  rotate_left
  · simp only [Act.put, List.setIfInBounds_toArray, List.set_cons_zero, List.set_cons_succ]
    rfl
  refine one_ (i := 1) (N := some 12) #[true, true, true, true, true, true, true, true, true, true, true, true, false, false, false] rfl rfl (by kernel_rfl) (by decide) (fun K hK => ?_)
  refine goes_ Tryd.func5 (by kernel_rfl) rfl #[.agg #[.slice An L.names.length cn, .slice Au L.up.length cu]] (by rfl) rfl rfl (by simp only [List.map_toArray, List.map_cons, List.map_nil]; rfl) ?_
  with_reducible refine (few_any (HLB.out.below (below_drew (Below.refl _ _)))).mono ?_
  rintro e w1 ⟨v, rfl, ho, hb1⟩
  obtain ⟨An2, cn2, rfl, -⟩ := ho.slice_
  refine ⟨_, rfl, ?_⟩
  have hd0 := (hb1.cell (p := ⟨w.heap.size, 0, none⟩) hsz).trans hc0
  have hd1 := (hb1.cell (p := ⟨w.heap.size, 1, none⟩) hsz).trans hc1
  have hg0 := (hb1.frozen (p := ⟨w.heap.size, 0, none⟩) hsz).trans hf0
  have hg1 := (hb1.frozen (p := ⟨w.heap.size, 1, none⟩) hsz).trans hf1
  have HO := Lib.hid ho
  have HB1 := Lib.hid hb1
  clear ho hb1
  refine hK.out _ _ ⟨hd0, hd1⟩ (fun hHeld => ?_)
  clear hK K
  refine norm_ (a' := ?_) ?_ ?_
  rotate_left
  · show Act.put _ (some 12) _ = _
    simp only [Act.put, List.setIfInBounds_toArray, List.set_cons_zero, List.set_cons_succ]
    rfl
  refine last_ (i := 12) (N := none) #[true, true, true, true, true, true, true, true, true, true, true, true, true, false, false] rfl rfl (by kernel_rfl) (by decide) (fun K hK => ?_)
  refine skip_ (w1 := ?_) (by rfl) rfl ?_ ?_
  rotate_left
  · go_simp
    rfl
  refine hK.out _ _ ?_
  clear hK K
  refine pure_ (i := 13) (N := some 1) (v := ?_) (a' := ?_) #[true, true, true, true, true, true, true, true, true, true, true, true, true, true, false] rfl rfl (by kernel_rfl) (fun _ _ _ h => h) (Or.inl ⟨by rfl, ?_⟩) ?_ ?_
  rotate_left
  · intro w'
    go_simp
    with_reducible rfl
  rotate_left
  · simp only [Act.put, List.setIfInBounds_toArray, List.set_cons_zero, List.set_cons_succ]
    rfl
  refine pure_ (i := 14) (N := some 2) (v := ?_) (a' := ?_) #[true, true, true, true, true, true, true, true, true, true, true, true, true, true, true] rfl rfl (by kernel_rfl) (fun _ _ _ h => h) (Or.inl ⟨by rfl, ?_⟩) ?_ ?_
  rotate_left
  · intro w'
    go_simp
    with_reducible rfl
  rotate_left
  · simp only [Act.put, List.setIfInBounds_toArray, List.set_cons_zero, List.set_cons_succ]
    rfl
  refine done_ (by kernel_rfl) ?_
  clear hc0 hc1 hf0 hf1
  obtain ⟨q, hqe⟩ : ∃ q, q = (cutL L).up.length := ⟨_, rfl⟩
  obtain ⟨p, hpe⟩ : ∃ p, p = (cutL L).names.length := ⟨_, rfl⟩
  rw [← hqe, ← hpe]
  have hBW : Below w.heap.size w ((w1.setCell ⟨w.heap.size, 0, none⟩ (.slice An2 p cn2)).setCell ⟨w.heap.size, 1, none⟩ (.slice Au q cu)) :=
    Below.setCell (Below.setCell (below_step HB0.out HB0.out.size (below_step (below_drew (Below.refl _ _)) (Nat.le_refl _) HB1.out)) (p := ⟨w.heap.size, 0, none⟩) (Nat.le_refl _) _) (p := ⟨w.heap.size, 1, none⟩) (Nat.le_refl _) _
  have hOW := OwnRow.but (HO.out.lower (base' := w.heap.size + 1) hsz) (((But.refl w.heap.size w1).set (o := 0) (.slice An2 p cn2)).set (o := 1) (.slice Au q cu))
  have hz0 : ((w1.setCell ⟨w.heap.size, 0, none⟩ (.slice An2 p cn2)).setCell ⟨w.heap.size, 1, none⟩ (.slice Au q cu)).cell? ⟨w.heap.size, 0, none⟩ = some (.slice An2 p cn2) := by
    have := World.cell?_setCell_same' w1 ⟨w.heap.size, 0, none⟩ (.slice An2 p cn2) (by rw [hd0]; rfl)
    simpa [go_sem] using this
  have hz1 : ((w1.setCell ⟨w.heap.size, 0, none⟩ (.slice An2 p cn2)).setCell ⟨w.heap.size, 1, none⟩ (.slice Au q cu)).cell? ⟨w.heap.size, 1, none⟩ = some (.slice Au q cu) :=
    World.cell?_setCell_same' (w1.setCell ⟨w.heap.size, 0, none⟩ (.slice An2 p cn2)) ⟨w.heap.size, 1, none⟩ (.slice Au q cu) (by simp [go_sem, hd1])
  have hzs : w.heap.size < ((w1.setCell ⟨w.heap.size, 0, none⟩ (.slice An2 p cn2)).setCell ⟨w.heap.size, 1, none⟩ (.slice Au q cu)).heap.size := by
    have := Nat.lt_of_lt_of_le hsz HB1.out.size
    simpa [World.setCell] using this
  generalize ((w1.setCell ⟨w.heap.size, 0, none⟩ (.slice An2 p cn2)).setCell ⟨w.heap.size, 1, none⟩ (.slice Au q cu)) = W2 at *
  clear hd0 hd1 hg0 hg1 HB1 HO
  obtain ⟨An3, cn3, e3, hLat⟩ := cut_at HL.out hBW hOW
  rw [← hpe] at e3
  cases e3
  clear hOW
  have HFin : Hid (∀ i : Aft W2, Below w.heap.size w i.w) := Lib.hid (fun i => below_step hBW hBW.size i.below)
  have HCr : Hid (∀ tv te ce rr rb, textV (cutL L) (a.take m) = tv → textE (cutL L) (a.take m) = te → checkE (cutL L) = ce → rRightB (cutL L) (a.take m) = rr → rightB (cutL L) (a.take m) = rb →
      CrAt W2 (.agg #[.slice An2 p cn2, .slice Au q cu]) (.slice Aa m ca) (.slice Ab n cb) tv te ce rr rb (decide (a.take m = b.take n))) := Lib.hid (fun tv te ce rr rb h1 h2 h3 h4 h5 => by
    have hA : ∀ i : Aft W2, kInstr.C i.w Aa (a.take m).length (a.take m) := fun i => Kd.C_below (Kd.C_below HA.out hBW) i.below
    have hB : ∀ i : Aft W2, kInstr.C i.w Ab (b.take n).length (b.take n) := fun i => Kd.C_below (Kd.C_below HB.out hBW) i.below
    subst h1 h2 h3 h4 h5
    refine ⟨fun i => ?_, fun i => ?_, fun i => ?_, fun i => ?_, fun i => ?_, fun i => ?_, fun i => ?_, fun i => alive_any ((HW.out.next hBW).next i.below)⟩
    · have h := text_any (cc := ca) ((HW.out.next hBW).next i.below) (hLat.below i.below) (hA i)
      rwa [HLa.out, ← hpe, ← hqe] at h
    · have h := rCheck_any (hLat.below i.below)
      rwa [← hpe, ← hqe] at h
    · have h := rRight_any (cc := ca) (hLat.below i.below) (hA i)
      rwa [HLa.out, ← hpe, ← hqe] at h
    · have h := Right_any (cc := ca) (hLat.below i.below) (hA i)
      rwa [HLa.out, ← hpe, ← hqe] at h
    · have h := like_any (c := ca) (c' := cb) (hA i) (hB i)
      rwa [HLa.out, HLb.out] at h
    · have h := same_any (c := ca) (c' := cb) (hA i) (hB i)
      rwa [HLa.out, HLb.out] at h
    · have h := like_any (c := ca) (c' := ca) (hA i) (hA i)
      rw [HLa.out, decide_eq_true rfl] at h
      exact h)
  have HTx : Hid (checkE (cutL L) = 0 → rightB (cutL L) (a.take m) = true → ∀ i : Aft W2, Calls Tryd.prog 13 #[.agg #[.slice An2 p cn2, .slice Au q cu], .slice Aa m ca] i.w fun e w' => e = .returned (.string (textAll (cutL L) (a.take m))) ∧ Below i.w.heap.size i.w w') := Lib.hid (fun hE hR i => by
    have h := rText_any (cc := ca) (hLat.below i.below) (Kd.C_below (Kd.C_below HA.out hBW) i.below) hE hR
    rwa [HLa.out, ← hpe, ← hqe] at h)
  obtain ⟨eqb, heqb⟩ : ∃ eqb, eqb = decide (a.take m = b.take n) := ⟨_, rfl⟩
  rw [← heqb] at HCr
  clear heqb hLat hBW HLa HLb hpe hqe HL HW HA HB
  obtain ⟨i0, hi0⟩ : ∃ i : Aft W2, W2 = i.w := ⟨⟨W2, Below.refl _ _⟩, rfl⟩
  have HI0 := Lib.hid hi0
  clear hi0
  by_cases hE : checkE (cutL L) = 0
  · cases hR : rightB (cutL L) (a.take m) with
    | false =>
      have HC := Lib.hid (HCr.out ⟨#[]⟩ 1 0 false false (by rw [textV, if_pos hE, hR]; rfl) (by rw [textE, if_pos hE, hR]; rfl) hE (by rw [rRight_same hE, hR]) hR)
      clear hE hR
      rw [HI0.out]
      go_wp2_with (first | (go_at_call 6; refine (aft_call (HC.out.text _)).mono ?_; rintro e _ ⟨rfl, j, rfl⟩) | (go_at_call 7; refine (aft_call (HC.out.check _)).mono ?_; rintro e _ ⟨rfl, j, rfl⟩) | (go_at_call 8; refine (aft_call (HC.out.rright _)).mono ?_; rintro e _ ⟨rfl, j, rfl⟩) | (go_at_call 9; refine (aft_call (HC.out.right _)).mono ?_; rintro e _ ⟨rfl, j, rfl⟩) | (go_at_call 11; refine (aft_call (HC.out.same _)).mono ?_; rintro e _ ⟨rfl, j, rfl⟩) | (go_at_call 12; refine (aft_call (HC.out.alive _)).mono ?_; rintro e _ ⟨rfl, j, rfl⟩) | (go_at_call 10; first | (refine (aft_call (HC.out.like _)).mono ?_; rintro e _ ⟨rfl, j, rfl⟩) | (refine (aft_call (HC.out.self _)).mono ?_; rintro e _ ⟨rfl, j, rfl⟩)))
      all_goals go_ret
      all_goals exact ⟨rfl, HFin.out _⟩
    | true =>
      have HC := Lib.hid (HCr.out (textAll (cutL L) (a.take m)) 0 0 true true (by rw [textV, if_pos hE, hR]; rfl) (by rw [textE, if_pos hE, hR]; rfl) hE (by rw [rRight_same hE, hR]) hR)
      have HT := Lib.hid (HTx.out hE hR)
      clear hE hR
      rw [HI0.out]
      go_wp2_with (first | (go_at_call 6; refine (aft_call (HC.out.text _)).mono ?_; rintro e _ ⟨rfl, j, rfl⟩) | (go_at_call 7; refine (aft_call (HC.out.check _)).mono ?_; rintro e _ ⟨rfl, j, rfl⟩) | (go_at_call 8; refine (aft_call (HC.out.rright _)).mono ?_; rintro e _ ⟨rfl, j, rfl⟩) | (go_at_call 9; refine (aft_call (HC.out.right _)).mono ?_; rintro e _ ⟨rfl, j, rfl⟩) | (go_at_call 11; refine (aft_call (HC.out.same _)).mono ?_; rintro e _ ⟨rfl, j, rfl⟩) | (go_at_call 12; refine (aft_call (HC.out.alive _)).mono ?_; rintro e _ ⟨rfl, j, rfl⟩) | (go_at_call 10; first | (refine (aft_call (HC.out.like _)).mono ?_; rintro e _ ⟨rfl, j, rfl⟩) | (refine (aft_call (HC.out.self _)).mono ?_; rintro e _ ⟨rfl, j, rfl⟩)) | (go_at_call 13; refine (aft_call (HT.out _)).mono ?_; rintro e _ ⟨rfl, j, rfl⟩))
      all_goals go_ret
      all_goals exact ⟨rfl, HFin.out _⟩
  · have hR := right_bad (code := a.take m) hE
    obtain ⟨ce, hce⟩ : ∃ ce, ce = checkE (cutL L) := ⟨_, rfl⟩
    have hne : (ce == 0) = false := by rw [hce]; simpa using hE
    have hne' : (ce != 0) = true := by rw [hce]; simpa using hE
    have HC := Lib.hid (HCr.out ⟨#[]⟩ ce ce (rRightB (cutL L) (a.take m)) false (by rw [textV, if_neg hE]) (by rw [textE, if_neg hE, hce]) hce.symm rfl hR)
    clear hE hR hce
    rw [HI0.out]
    go_wp2_with (first | (go_at_call 6; refine (aft_call (HC.out.text _)).mono ?_; rintro e _ ⟨rfl, j, rfl⟩) | (go_at_call 7; refine (aft_call (HC.out.check _)).mono ?_; rintro e _ ⟨rfl, j, rfl⟩) | (go_at_call 8; refine (aft_call (HC.out.rright _)).mono ?_; rintro e _ ⟨rfl, j, rfl⟩) | (go_at_call 9; refine (aft_call (HC.out.right _)).mono ?_; rintro e _ ⟨rfl, j, rfl⟩) | (go_at_call 11; refine (aft_call (HC.out.same _)).mono ?_; rintro e _ ⟨rfl, j, rfl⟩) | (go_at_call 12; refine (aft_call (HC.out.alive _)).mono ?_; rintro e _ ⟨rfl, j, rfl⟩) | (go_at_call 10; first | (refine (aft_call (HC.out.like _)).mono ?_; rintro e _ ⟨rfl, j, rfl⟩) | (refine (aft_call (HC.out.self _)).mono ?_; rintro e _ ⟨rfl, j, rfl⟩)))
    all_goals go_ret
    all_goals exact ⟨rfl, HFin.out _⟩
end Go.Proofs.YtmcafcgbbhcjhaaDoor
