/- From the reading of an argument to what the walks ask: slices of whatever is told by a kind; instructions, lattices; the laid table of words. -/
import Derived.Test.YtmcafcgbbhcjhaaDoorCodJ
import Derived.Deep.Slices
import Derived.Deep.Strs
import Derived.Lib.SmallJoins
import Derived.ProofKit
import Derived.LaidMore
import Derived.OpenShut
import Derived.Stop.Joined
namespace Go.Proofs.YtmcafcgbbhcjhaaDoor
open Go.ChangeShapes Go.WideShapes Go.RowKit Go.Joins Go.Proofs.YtmcafcgbbhcjhaaDoorW.PrintWords

section
variable {H : Type} {enc : TypeId × Value → H} {W : World} {base : Nat} {spare : Nat → Bool} {held : Bool} {fuel : Nat} {cs : List Value} {x : DataW H × List MemPlace}
/-- A slice whose elements can be told. -/
theorem open_C {α : Type} {d : Kd α} {t e : TypeId} [Inhabited α] (ht : Tryd.prog.underlying t = some (.slice e)) (hc : Tryd.prog.cellsOf e = d.sz) (Q : α → Prop)
    (hel : ∀ (n : Nat) (cs : List Value) (x : DataW H × List MemPlace), DataW.trod enc Tryd.prog W base spare held n e cs = some x → ∃ a, d.K W a cs ∧ Q a)
    (h : DataW.trod enc Tryd.prog W base spare held fuel t cs = some x) : ∃ A c xs, cs = [.slice A xs.length c] ∧ xs.length ≤ c ∧ d.C W A xs.length xs ∧ ∀ a ∈ xs, Q a := by
  rcases Deep.open_slice ht h with ⟨rfl, -⟩ | ⟨a, len, cap, m, n, D, Pl, rfl, -, hl, hm, hmm, -, hx⟩
  · exact ⟨none, 0, [], rfl, Nat.le_refl _, Kd.C_nil _ _, by simp⟩
  · have hlm : len ≤ m := by rw [hmm]; split <;> omega
    rw [hc] at hx
    obtain ⟨f, hf⟩ := Deep.choose_lt (n := len) (p := fun i y => ∃ cs', W.cells? base (a.add (i * d.sz)) d.sz = some cs' ∧ d.K W y cs' ∧ Q y) (fun i hi => by
      obtain ⟨cs', h1, h2⟩ := hx i (by omega)
      obtain ⟨y, hy, hq⟩ := hel _ _ _ h2
      exact ⟨y, cs', h1, hy, hq⟩)
    have hlen : ((List.range len).map f).length = len := by simp
    refine ⟨some a, cap, (List.range len).map f, by rw [hlen], by rw [hlen]; exact hl, ?_, ?_⟩
    · rw [hlen]
      refine ⟨hlen, by unfold maxLen at hm; omega, fun _ => ⟨a, rfl, fun j p hj => ?_⟩⟩
      have hjl : j < len := by have := (List.getElem?_eq_some_iff.1 hj).1; simpa using this
      obtain ⟨cs', h1, h2, -⟩ := hf j hjl
      have hp : f j = p := by simpa [List.getElem?_map, List.getElem?_range hjl] using hj
      subst hp
      obtain ⟨-, hcl, hcc⟩ := World.cells?_some h1
      refine ⟨cs', hcl, h2, fun i u hu => ?_⟩
      have hi : i < d.sz := by have := (List.getElem?_eq_some_iff.1 hu).1; omega
      rw [← add_plus, hcc i hi, hu]
    · intro y hy
      obtain ⟨i, hi, rfl⟩ := List.mem_map.1 hy
      obtain ⟨_, -, -, hq⟩ := hf i (List.mem_range.1 hi)
      exact hq
instance : Inhabited Instr := ⟨zInstr⟩
theorem open_int_el {n : Nat} (h : DataW.trod enc Tryd.prog W base spare held n 3 cs = some x) : ∃ a : Int, kInt.K W a cs ∧ True := by
  obtain ⟨a, rfl, -, -⟩ := DataW.trod_int Tryd.underlying3 h
  exact ⟨a, rfl, trivial⟩
theorem open_up_el {n : Nat} (h : DataW.trod enc Tryd.prog W base spare held n 60 cs = some x) : ∃ a : Nat, kUp.K W a cs ∧ a < 4294967296 := by
  obtain ⟨a, rfl, -, hw⟩ := DataW.trod_int Tryd.underlying60 h
  have hb : 0 ≤ a ∧ a < 4294967296 := by
    simp [Lit.wf, IntKind.min, IntKind.max, IntKind.signed, IntKind.bits] at hw
    omega
  exact ⟨a.toNat, by show [Value.int .u32 a] = [.int .u32 ((a.toNat : Nat) : Int)]; rw [Int.toNat_of_nonneg hb.1], by omega⟩
set_option maxRecDepth 100000 in
theorem open_str_el {n : Nat} (h : DataW.trod enc Tryd.prog W base spare held n 9 cs = some x) : ∃ a : ByteArray, Kd.string.K W a cs ∧ a.size ≤ 9223372036854775807 := by
  obtain ⟨a, rfl, -, hs⟩ := DataW.trod_string Tryd.underlying9 h
  exact ⟨a, rfl, by unfold maxLen at hs; omega⟩
theorem list3 {α : Type} {cs : List α} (h : cs.length = 3) : ∃ a b c, cs = [a, b, c] := by
  match cs, h with
  | [a, b, c], _ => exact ⟨a, b, c, rfl⟩
set_option maxRecDepth 100000 in
theorem open_instr_el {n : Nat} (h : DataW.trod enc Tryd.prog W base spare held n 51 cs = some x) : ∃ a : Instr, kInstr.K W a cs ∧ True := by
  obtain ⟨y0, y1, y2, m, -, hl, h0, h1, h2⟩ := Deep.trod_struct3 Tryd.underlying51 h
  have hc : Tryd.prog.cellsOf 51 = 3 := by kernel_rfl
  have hi : Tryd.prog.cellsOf 3 = 1 := by kernel_rfl
  rw [hc] at hl
  obtain ⟨c0, c1, c2, rfl⟩ := list3 hl
  · simp only [hi, List.drop_zero, List.take_succ_cons, List.take_zero, List.drop_succ_cons] at h0 h1 h2
    obtain ⟨a0, e0, -, -⟩ := DataW.trod_int Tryd.underlying3 h0
    obtain ⟨a1, e1, -, -⟩ := DataW.trod_int Tryd.underlying3 h1
    obtain ⟨a2, e2, -, -⟩ := DataW.trod_int Tryd.underlying3 h2
    cases e0; cases e1; cases e2
    exact ⟨⟨a0, a1, a2⟩, kInstr_mk _ _, trivial⟩
theorem open_instrs (h : DataW.trod enc Tryd.prog W base spare held fuel 26 cs = some x) : ∃ A c xs, cs = [.slice A xs.length c] ∧ xs.length ≤ c ∧ kInstr.C W A xs.length xs := by
  obtain ⟨A, c, xs, h1, h2, h3, -⟩ := open_C (d := kInstr) Tryd.underlying26 (by kernel_rfl) (fun _ => True) (fun n cs x h => open_instr_el h) h
  exact ⟨A, c, xs, h1, h2, h3⟩
set_option maxRecDepth 100000 in
/-- A lattice that was handed over. -/
theorem open_lat {r : Reach} {b0 : Nat} {v : Value} {d : DataW H} {p : List MemPlace} (hv : Value.okWide Tryd.prog W r b0 25 v) (h : DataW.Trod enc Tryd.prog W base spare held 25 v d p) :
    ∃ An cn Au cu L, v = .agg #[.slice An L.names.length cn, .slice Au L.up.length cu] ∧ LatAt W An cn Au cu L := by
  obtain ⟨c0, c1, y0, y1, m, rfl, rfl, rfl, h0, h1⟩ := open_agg2 Tryd.underlying25 (by kernel_rfl) (by kernel_rfl) hv h
  obtain ⟨An, cn, ns, e0, hn, hN, hNs⟩ := open_C (d := Kd.string) Tryd.underlying22 (by kernel_rfl) (fun s => s.size ≤ 9223372036854775807) (fun n cs x h => open_str_el h) h0
  obtain ⟨Au, cu, us, e1, hu, hU, hUs⟩ := open_C (d := kUp) Tryd.underlying23 (by kernel_rfl) (fun n => n < 4294967296) (fun n cs x h => open_up_el h) h1
  cases e0; cases e1
  exact ⟨An, cn, Au, cu, ⟨ns, us⟩, rfl, hN, hU, hn, hu, hNs, hUs⟩
end
set_option maxRecDepth 100000 in
/-- The table of words, as its cells. -/
theorem words_of {H : Type} {enc : TypeId × Value → H} {W : World} {base : Nat} {spare : Nat → Bool} {held : Bool} {fuel : Nat} {cs : List Value} {p : List MemPlace}
    (h : DataW.trod enc Tryd.prog W base spare held fuel 76 cs = some (.agg ((wordsL.map fun s => .lit (.string s.data.toList))), p)) (k : Nat) (hk : k < 13) : cs[k]? = some (.string (wordAt k)) := by
  obtain ⟨xs, m, -, hx, hlen, hn, hel⟩ := DataW.trod_array Tryd.underlying76 h
  have c1 : Tryd.prog.cellsOf 9 = 1 := by kernel_rfl
  have c13 : Tryd.prog.cellsOf 76 = 13 := by kernel_rfl
  rw [c13] at hlen
  have hk2 := hel k hk
  rw [c1, Nat.mul_one] at hk2
  have hd : (cs.drop k).take 1 = [cs[k]'(by omega)] := by
    rw [List.take_one, List.head?_drop, List.getElem?_eq_getElem (by omega)]; rfl
  rw [hd, List.getElem?_eq_getElem (by omega)] at hk2
  obtain ⟨s, e1, e2, -⟩ := DataW.trod_string Tryd.underlying9 hk2
  rw [List.getElem?_eq_getElem (by omega)]
  have e3 : cs[k]'(by omega) = .string s := by injection e1
  rw [e3]
  simp only [Prod.mk.injEq, DataW.agg.injEq] at hx
  have hxs : (xs.map (·.1))[k]? = some (.lit (.string s.data.toList)) := by
    rw [List.getElem?_map, List.getElem?_eq_getElem (by omega), e2]; rfl
  rw [← hx.1, List.getElem?_map, List.getElem?_eq_getElem (by show k < 13; omega)] at hxs
  simp only [Option.map_some, Option.some.injEq, DataW.lit.injEq, Lit.string.injEq] at hxs
  have hw : wordAt k = wordsL[k]'(by show k < 13; omega) := nth_get _ _
  rw [hw]
  congr 2
  have h2 : (wordsL[k]'(by show k < 13; omega)).data = s.data := Array.toList_inj.1 hxs
  exact (ByteArray.ext h2.symm)
end Go.Proofs.YtmcafcgbbhcjhaaDoor
