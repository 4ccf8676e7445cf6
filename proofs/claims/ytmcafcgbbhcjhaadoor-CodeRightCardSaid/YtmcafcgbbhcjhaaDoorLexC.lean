/- lex: Lex. -/
import Derived.Test.YtmcafcgbbhcjhaaDoorLexB
import Derived.Test.YtmcafcgbbhcjhaaDoorCodN
namespace Go.Proofs.YtmcafcgbbhcjhaaDoor
open Go.RowKit Go.Shelf Go.Proofs.YtmcafcgbbhcjhaaDoorW.PrintWords
attribute [local go_sem] Oper.semAt_some

/-- A token's cells. -/
def tR (x : Tok) (cs : List Value) : Prop := cs = [.int .i64 x.kind, .string x.text, .int .i64 x.at_]
def lexGo : Nat → List UInt8 → Nat → List Tok → List Tok × Nat × Int
  | 0, _, _, _ => ([], 0, 0)
  | _ + 1, [], at_, acc => if acc.length < 200 then (acc ++ [⟨0, ByteArray.empty, at_⟩], 0, 0) else ([], 0, 8)
  | f + 1, c :: r, at_, acc => if (tokC c (c :: r)).2 = 0 then ([], at_, 4) else
      lexGo f ((c :: r).drop (tokC c (c :: r)).2) (at_ + (tokC c (c :: r)).2) (if (tokC c (c :: r)).1 = 0 then acc else acc ++ [⟨(tokC c (c :: r)).1, ⟨((c :: r).take (tokC c (c :: r)).2).toArray⟩, at_⟩])
def lexP (s : ByteArray) : List Tok × Nat × Int := if 2000 < s.size then ([], 0, 8) else lexGo (s.size + 1) s.data.toList 0 []
def LexPost (w : World) (r : List Tok × Nat × Int) (e : Ending) (w' : World) : Prop :=
  ∃ v, e = .returned (.tuple #[v, .int .i64 r.2.1, .int .i64 r.2.2]) ∧ OwnRow tR 93 3 w' w.heap.size v r.1 ∧ Below w.heap.size w w'
def LexRel (w : World) (s : ByteArray) (r : List Tok × Nat × Int) (v i : Value) (wr : World) : Prop :=
  ∃ (a : Nat) (acc : List Tok) (f : Nat), i = .int .i64 a ∧ a ≤ s.size ∧ OwnRow tR 93 3 wr w.heap.size v acc ∧ Below w.heap.size w wr ∧ acc.length ≤ a ∧ s.size - a < f ∧ lexGo f (s.data.toList.drop a) a acc = r
theorem tokC_le (c : UInt8) (r : List UInt8) : (tokC c (c :: r)).2 ≤ r.length + 1 := by
  have hw : ∀ p : UInt8 → Bool, whileN p (c :: r) ≤ r.length + 1 := fun p => by
    unfold whileN
    exact Nat.le_trans (List.Sublist.length_le (List.takeWhile_sublist p)) (by simp)
  unfold tokC
  split
  · simp
  split
  · exact hw _
  split
  · exact hw _
  split
  · exact hw _
  split
  · rename_i h
    cases r with
    | nil => simp [Lib.hasPrefix, List.isPrefixOf] at h
    | cons d r => simp
  split
  · simp
  · simp
theorem ext_list (s : ByteArray) (a b : Nat) : (s.extract a b).data.toList = (s.data.toList.drop a).take (b - a) := by
  rw [ByteArray.data_extract, Array.toList_extract]
theorem ext_take (s : ByteArray) (a n : Nat) : s.extract a (a + n) = ⟨((s.data.toList.drop a).take n).toArray⟩ := by
  apply ba_ext
  rw [ext_list, Nat.add_sub_cancel_left]
theorem ba_head {c : UInt8} {r : List UInt8} : ∀ (b : ByteArray) (h : 0 < b.size), b.data.toList = c :: r → b[0] = c
  | ⟨⟨[]⟩⟩, h, _ => absurd h (Nat.lt_irrefl 0)
  | ⟨⟨d :: l⟩⟩, _, e => by
    simp at e
    exact e.1
theorem token_at (s : ByteArray) (hs : s.size ≤ 9223372036854775807) {a : Nat} (ha : a < s.size) : ∃ c r, s.data.toList.drop a = c :: r ∧ r.length + 1 = s.size - a ∧ ∀ w : World,
    Calls Tryd.prog 80 #[.string (s.extract a s.size)] w fun e w' => e = .returned (.tuple #[.int .i64 (tokC c (c :: r)).1, .int .i64 ((tokC c (c :: r)).2 : Nat)]) ∧ w = w' := by
  have hl : (s.extract a s.size).data.toList = s.data.toList.drop a := by
    rw [ext_list, List.take_of_length_le (by rw [List.length_drop]; simp)]
  have hsz : (s.extract a s.size).size = s.size - a := by
    rw [← data_length, hl, List.length_drop, data_length]
  cases hd : s.data.toList.drop a with
  | nil =>
    have := congrArg List.length hd
    rw [List.length_drop, data_length] at this
    simp at this
    omega
  | cons c r =>
    have hlen := congrArg List.length hd
    rw [List.length_drop, data_length] at hlen
    simp only [List.length_cons] at hlen
    refine ⟨c, r, rfl, by omega, fun w => ?_⟩
    have h := token_any (s.extract a s.size) (by omega) (by omega) w
    rw [hl, hd] at h
    have hc : (s.extract a s.size)[0]'(by omega) = c := ba_head _ (by omega) (hl.trans hd)
    rw [hc] at h
    exact h
set_option maxRecDepth 100000 in
set_option maxHeartbeats 2000000 in
theorem lex_any (s : ByteArray) (hs : s.size ≤ 9223372036854775807) (w : World) :
    Calls Tryd.prog 49 #[.string s] w (LexPost w (lexP s)) := by
  obtain ⟨r, hr⟩ : ∃ r, r = lexP s := ⟨_, rfl⟩
  rw [← hr]
  by_cases h2 : 2000 < s.size
  · have HRe := Lib.hid (show r = ([], 0, 8) by rw [hr, lexP, if_pos h2])
    clear hr
    have h2' : decide ((2000 : Int) < s.size) = true := decide_eq_true (by omega)
    go_enter Tryd.func49, Tryd.ntmps49
    go_wp2
    go_ret3
    exact ⟨_, by rw [HRe.out]; rfl, by rw [HRe.out]; exact ⟨[], own_nil _ _ _ _, Reps.none _ _⟩, Below.refl _ _⟩
  · have HRe := Lib.hid (show r = lexGo (s.size + 1) s.data.toList 0 [] by rw [hr, lexP, if_neg h2])
    clear hr
    have h2' : decide ((2000 : Int) < s.size) = false := decide_eq_false (by omega)
    go_enter Tryd.func49, Tryd.ntmps49
    go_wp2
    go_loopw [5, 6] (fun v i wr => LexRel w s r v i wr) (fun _ i _ => s.size - (intOf i).toNat)
    case atStart => exact ⟨0, [], s.size + 1, rfl, Nat.zero_le _, ⟨[], own_nil _ _ _ _, Reps.none _ _⟩, Below.refl _ _, Nat.le_refl _, by omega, HRe.out.symm⟩
    case round =>
      obtain ⟨a, acc, f, rfl, ha, ho, hB, hacc, hf, hgo⟩ := hrel
      obtain ⟨A', c', rfl, hcap⟩ := ho.slice_
      have HO := Lib.hid ho
      have HGo := Lib.hid hgo
      have HB := Lib.hid hB
      clear ho hgo hB
      by_cases hlt : a < s.size
      · obtain ⟨c, rest, hcr, hrl, htk⟩ := token_at s hs hlt
        have HTk := Lib.hid htk
        have HCr := Lib.hid hcr
        have hle := tokC_le c rest
        obtain ⟨kn, hkn⟩ : ∃ kn, kn = tokC c (c :: rest) := ⟨_, rfl⟩
        rw [← hkn] at HTk hle
        have HKn := Lib.hid hkn
        obtain ⟨f', rfl⟩ : ∃ f', f = f' + 1 := ⟨f - 1, by omega⟩
        have hgo := HGo.out
        rw [HCr.out, lexGo, ← hkn] at hgo
        have HGo := Lib.hid hgo
        clear htk hcr hkn hgo
        obtain ⟨k, n⟩ := kn
        simp only at HTk HGo hle
        go_wp2_with fail
        refine (HTk.out _).mono ?_
        rintro e w2 ⟨rfl, rfl⟩
        by_cases hn : n = 0
        · have HRe2 := Lib.hid (show r = ([], a, 4) by have := HGo.out; rw [if_pos hn] at this; exact this.symm)
          subst hn
          go_wp2
          go_ret3
          exact ⟨_, by rw [HRe2.out]; rfl, by rw [HRe2.out]; exact ⟨[], own_nil _ _ _ _, Reps.none _ _⟩, HB.out⟩
        · have hn' : ((n : Int) == 0) = false := by simp; omega
          have hgo := HGo.out
          rw [if_neg hn] at hgo
          by_cases hk : k = 0
          · have hk' : (k != 0) = false := by simp [hk]
            rw [if_pos hk] at hgo
            have HGo := Lib.hid hgo
            have HNn := Lib.hid hn
            clear hgo hn hk
            go_wp2
            go_roundw
            case rel => exact ⟨a + n, acc, f', by go_num, by omega, HO.out, HB.out, by omega, by have := HNn.out; omega, by rw [← HGo.out, ← HCr.out, List.drop_drop]⟩
            case measure => have := HNn.out; simp [intOf]; omega
          · have hk' : (k != 0) = true := by simpa using hk
            rw [if_neg hk] at hgo
            have HGo := Lib.hid hgo
            have HNn := Lib.hid hn
            clear hgo hn hk
            have hsl : ∀ W : World, (Instr.slice 9 (.string s) (some (.int .i64 (a : Int))) (some (.int .i64 ((a : Int) + (n : Int)))) none).run Tryd.prog W = .ok (.string (s.extract a (a + n))) W := fun W => by
              have h := @run_slice_string Tryd.prog W 9 s .i64 .i64 (a : Int) ((a : Int) + (n : Int)) Tryd.underlying9 (by omega) (by omega) (by omega)
              rwa [show ((a : Int)).toNat = a by omega, show ((a : Int) + (n : Int)).toNat = a + n by omega] at h
            go_wp2_with (at_builtin; refine OwnRow.append (w0 := w) (R := tR) w.heap.size rfl _ _ 85 93 (.agg #[.int .i64 0, .string ⟨#[]⟩, .int .i64 0]) 3 32 rfl Tryd.underlying85 (by kernel_rfl) rfl (by decide) (by decide) (.slice A' acc.length c') acc ⟨k, s.extract a (a + n), a⟩ [.int .i64 k, .string (s.extract a (a + n)), .int .i64 a] rfl rfl rfl rfl (by intro u hu; simp only [List.mem_cons, List.not_mem_nil, or_false] at hu; rcases hu with rfl | rfl | rfl <;> rfl) HO.out HB.out HB.out.size (by omega) ?_; intro v1 w5 ho5 hb5 hg5 hat5)
            obtain ⟨A1, c1, hv1, -⟩ := ho5.slice_
            rw [List.length_append, List.length_singleton] at hv1
            subst hv1
            go_roundw
            case rel => exact ⟨a + n, _, f', by go_num, by omega, ho5, hb5, by simp; have := HNn.out; omega, by have := HNn.out; omega, by rw [← HGo.out, ← HCr.out, List.drop_drop, ← ext_take]⟩
            case measure => have := HNn.out; simp [intOf]; omega
      · have he : a = s.size := by omega
        subst he
        have hgo := HGo.out
        have HLen := Lib.hid (show (s.data.toList.drop s.size) = [] by rw [List.drop_eq_nil_iff]; simp)
        obtain ⟨f', rfl⟩ : ∃ f', f = f' + 1 := ⟨f - 1, by omega⟩
        rw [HLen.out, lexGo] at hgo
        have HGo := Lib.hid hgo
        clear hgo
        by_cases h200 : acc.length < 200
        · have hq : decide ((200 : Int) < (acc.length : Int) + 1) = false := decide_eq_false (by omega)
          have HRe2 := Lib.hid (show r = (acc ++ [⟨0, ByteArray.empty, s.size⟩], 0, 0) by have := HGo.out; rw [if_pos h200] at this; exact this.symm)
          go_wp2_with (at_builtin; refine OwnRow.append (w0 := w) (R := tR) w.heap.size rfl _ _ 85 93 (.agg #[.int .i64 0, .string ⟨#[]⟩, .int .i64 0]) 3 32 rfl Tryd.underlying85 (by kernel_rfl) rfl (by decide) (by decide) (.slice A' acc.length c') acc ⟨0, ⟨#[]⟩, s.size⟩ [.int .i64 0, .string ⟨#[]⟩, .int .i64 s.size] rfl rfl rfl rfl (by intro u hu; simp only [List.mem_cons, List.not_mem_nil, or_false] at hu; rcases hu with rfl | rfl | rfl <;> rfl) HO.out HB.out HB.out.size (by omega) ?_; intro v1 w5 ho5 hb5 hg5 hat5; obtain ⟨A1, c1, hv1, -⟩ := ho5.slice_; rw [List.length_append, List.length_singleton] at hv1; subst hv1)
          go_ret3
          exact ⟨_, by rw [HRe2.out]; rfl, by rw [HRe2.out]; exact ho5, hb5⟩
        · have hq : decide ((200 : Int) < (acc.length : Int) + 1) = true := decide_eq_true (by omega)
          have HRe2 := Lib.hid (show r = ([], 0, 8) by have := HGo.out; rw [if_neg h200] at this; exact this.symm)
          go_wp2_with (at_builtin; refine OwnRow.append (w0 := w) (R := tR) w.heap.size rfl _ _ 85 93 (.agg #[.int .i64 0, .string ⟨#[]⟩, .int .i64 0]) 3 32 rfl Tryd.underlying85 (by kernel_rfl) rfl (by decide) (by decide) (.slice A' acc.length c') acc ⟨0, ⟨#[]⟩, s.size⟩ [.int .i64 0, .string ⟨#[]⟩, .int .i64 s.size] rfl rfl rfl rfl (by intro u hu; simp only [List.mem_cons, List.not_mem_nil, or_false] at hu; rcases hu with rfl | rfl | rfl <;> rfl) HO.out HB.out HB.out.size (by omega) ?_; intro v1 w5 ho5 hb5 hg5 hat5; obtain ⟨A1, c1, hv1, -⟩ := ho5.slice_; rw [List.length_append, List.length_singleton] at hv1; subst hv1)
          go_ret3
          exact ⟨_, by rw [HRe2.out]; rfl, by rw [HRe2.out]; exact ⟨[], own_nil _ _ _ _, Reps.none _ _⟩, hb5⟩
end Go.Proofs.YtmcafcgbbhcjhaaDoor
