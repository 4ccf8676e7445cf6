/- table.Name; code.instruction. -/
import Derived.Test.YtmcafcgbbhcjhaaDoorLatF
namespace Go.Proofs.YtmcafcgbbhcjhaaDoor
open Go.RowKit Go.Shelf Go.Proofs.YtmcafcgbbhcjhaaDoorW.PrintWords
attribute [local go_sem] Oper.semAt_some

/-- Instructions' words. -/
def wordsL : List ByteArray := [⟨#[110, 111, 111, 112]⟩, ⟨#[112, 117, 115, 104]⟩, ⟨#[112, 111, 112]⟩, ⟨#[97, 100, 100]⟩, ⟨#[115, 117, 98]⟩, ⟨#[108, 111, 97, 100]⟩, ⟨#[115, 116, 111, 114, 101]⟩, ⟨#[106, 117, 109, 112]⟩, ⟨#[98, 110, 122]⟩, ⟨#[99, 97, 108, 108]⟩, ⟨#[114, 101, 116, 117, 114, 110]⟩, ⟨#[111, 117, 116, 112, 117, 116]⟩, ⟨#[104, 97, 108, 116]⟩]
def wordAt (k : Nat) : ByteArray := nth ByteArray.empty wordsL k
/-- The program's table of words is as it was laid. -/
structure WordsAt (w : World) : Prop where
  cell : ∀ k, k < 13 → w.cell? ⟨0, k, none⟩ = some (.string (wordAt k))
  lt : 0 < w.heap.size
theorem WordsAt.below {n : Nat} {w w' : World} (h : WordsAt w) (hb : Below n w w') (hn : 0 < n) : WordsAt w' :=
  ⟨fun k hk => (hb.cell (p := ⟨0, k, none⟩) hn).trans (h.cell k hk), Nat.lt_of_lt_of_le h.lt hb.size⟩
theorem WordsAt.next {w w' : World} (h : WordsAt w) (hb : Below w.heap.size w w') : WordsAt w' := h.below hb h.lt
def nameV (op : Int) : ByteArray := if 0 ≤ op ∧ op < 13 then wordAt op.toNat else ByteArray.empty
def nameE (op : Int) : Int := if 0 ≤ op ∧ op < 13 then 0 else 9
set_option maxRecDepth 100000 in
theorem Name_in {op : Int} {w : World} (hw : WordsAt w) (h0 : 0 ≤ op) (h1 : op < 13) :
    Calls Tryd.prog 24 #[.int .i64 op] w fun e w' => e = .returned (.tuple #[.string (wordAt op.toNat), .int .i64 0]) ∧ w = w' := by
  have hc := hw.cell op.toNat (by omega)
  go_enter Tryd.func24, Tryd.ntmps24
  go_wp2
  go_ret2
  exact ⟨rfl, rfl⟩
set_option maxRecDepth 100000 in
theorem instruction_any {t : Tok} {w : World} (hw : WordsAt w) :
    Calls Tryd.prog 97 #[.agg #[.int .i64 t.kind, .string t.text, .int .i64 t.at_]] w fun e w' => e = .returned (.int .i64 (if t.kind = 1 then idxOf (fun x => decide (x = t.text)) wordsL else -1)) ∧ Below w.heap.size w w' := by
  obtain ⟨r, hr⟩ : ∃ r, r = (if t.kind = 1 then idxOf (fun x => decide (x = t.text)) wordsL else -1) := ⟨_, rfl⟩
  rw [← hr]
  have HR := Lib.hid hr
  clear hr
  have HW := Lib.hid (hw.next (below_new (.cells #[.int .i64 t.kind, .string t.text, .int .i64 t.at_] 93)))
  clear hw
  have hlen : wordsL.length = 13 := rfl
  have HLen := Lib.hid hlen
  clear hlen
  by_cases hk : t.kind = 1
  · have hk' : (t.kind == 1) = true := by simp [hk]
    have HE := Lib.hid (show r = idxOf (fun x => decide (x = t.text)) wordsL by rw [HR.out, if_pos hk])
    clear hk HR
    go_enter Tryd.func97, Tryd.ntmps97
    go_wp2
    go_loop [6] (fun i => ∃ k : Nat, k ≤ 13 ∧ i = .int .i64 k ∧ (wordsL.take k).all (fun x => !decide (x = t.text)) = true) (fun i => 13 - (intOf i).toNat)
    case atStart => exact ⟨0, Nat.zero_le _, rfl, rfl⟩
    case round =>
      obtain ⟨k, hkk, rfl, hall⟩ := hrel
      have HA := Lib.hid hall
      clear hall
      by_cases hlt : k < 13
      · have HT := Lib.hid (take_nth (xs := wordsL) ByteArray.empty (k := k) (by rw [HLen.out]; exact hlt))
        have HN := Lib.hid (Name_in (op := (k : Int)) HW.out (by omega) (by omega))
        by_cases hs : wordAt k = t.text
        · have hs' : ((wordAt k).toList == t.text.toList) = true := by rw [ba_tl]; simp [hs]
          have HS := Lib.hid hs
          clear hs
          go_wp2_with (refine HN.out.mono ?_; rintro e w' ⟨rfl, rfl⟩)
          go_ret
          exact ⟨ret_int (by rw [HE.out]; exact (idxOf_at _ wordsL k ByteArray.empty (by rw [HLen.out]; exact hlt) HA.out (by simpa [wordAt] using HS.out)).symm), below_new _⟩
        · have hs' : ((wordAt k).toList == t.text.toList) = false := by rw [ba_tl]; simp [hs]
          have HS := Lib.hid hs
          clear hs
          go_wp2_with (refine HN.out.mono ?_; rintro e w' ⟨rfl, rfl⟩)
          go_round
          case rel => exact ⟨k + 1, by omega, by go_num, by rw [HT.out, List.all_append, HA.out]; simpa [wordAt] using HS.out⟩
          case measure => simp [intOf]; omega
      · have : k = 13 := by omega
        subst this
        go_wp2
        go_ret
        exact ⟨ret_int (by rw [HE.out]; exact (idxOf_none _ wordsL HA.out).symm), below_new _⟩
  · have hk' : (t.kind == 1) = false := by simpa using hk
    have HE := Lib.hid (show r = -1 by rw [HR.out, if_neg hk])
    clear hk HR
    go_enter Tryd.func97, Tryd.ntmps97
    go_wp2
    go_loop [6] (fun i => ∃ k : Nat, k ≤ 13 ∧ i = .int .i64 k) (fun i => 13 - (intOf i).toNat)
    case atStart => exact ⟨0, Nat.zero_le _, rfl⟩
    case round =>
      obtain ⟨k, hkk, rfl⟩ := hrel
      by_cases hlt : k < 13
      · have HN := Lib.hid (Name_in (op := (k : Int)) HW.out (by omega) (by omega))
        go_wp2_with (refine HN.out.mono ?_; rintro e w' ⟨rfl, rfl⟩)
        go_round
        case rel => exact ⟨k + 1, by omega, by go_num⟩
        case measure => simp [intOf]; omega
      · have : k = 13 := by omega
        subst this
        go_wp2
        go_ret
        exact ⟨ret_int (by rw [HE.out]), below_new _⟩
end Go.Proofs.YtmcafcgbbhcjhaaDoor
