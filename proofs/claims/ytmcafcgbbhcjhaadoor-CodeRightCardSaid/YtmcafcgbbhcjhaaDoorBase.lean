/- Words of this session: kinds of values of package api, reads of slices, small lemmas for walks. -/
import Derived.Test.YtmcafcgbbhcjhaaDoorProg
import Derived.Test.YtmcafcgbbhcjhaaDoorWWords
import Derived.WalkLawsBesides
import Derived.Lib.Hide
import Derived.Outline
import Derived.Deep.DeepFit
import Derived.Deep.QuietTactic
import Derived.BigQuiet
import Derived.Laws.BitsAllLaws
import Derived.Laws.BitsLemmas
namespace Go.Proofs.YtmcafcgbbhcjhaaDoor
open Go.RowKit Go.Proofs.YtmcafcgbbhcjhaaDoorW.PrintWords

theorem ret_bool {a b : Bool} (h : a = b) : Ending.returned (.bool a) = .returned (.bool b) := by rw [h]
theorem ret_int {k : IntKind} {a b : Int} (h : a = b) : Ending.returned (.int k a) = .returned (.int k b) := by rw [h]
theorem ret_str {a b : ByteArray} (h : a = b) : Ending.returned (.string a) = .returned (.string b) := by rw [h]

/-- What lay there lies there still. -/
theorem bcell {W w1 : World} (hb : Below W.heap.size W w1) : (∀ b o, b < W.heap.size → w1.cell? ⟨b, o, none⟩ = W.cell? ⟨b, o, none⟩) ∧ (∀ b o, b < W.heap.size → w1.frozen? ⟨b, o, none⟩ = W.frozen? ⟨b, o, none⟩) :=
  ⟨fun b o h => hb.cell (p := ⟨b, o, none⟩) h, fun b o h => hb.frozen (p := ⟨b, o, none⟩) h⟩
theorem below_le {B C : Nat} {w w1 : World} (h : Below C w w1) (hBC : B ≤ C) : Below B w w1 :=
  ⟨h.os, h.tape, h.output, h.size, fun i hi => h.block i (Nat.lt_of_lt_of_le hi hBC)⟩
/-- One behind the other. -/
theorem below_step {B : Nat} {w0 w w1 : World} (h : Below B w0 w) (hB : B ≤ w.heap.size) (k : Below w.heap.size w w1) : Below B w0 w1 := h.trans (below_le k hB)
theorem below_new {w : World} (o : Obj) : Below w.heap.size w (w.alloc o) := below_alloc (Below.refl _ _) o

/-- A function with a text of its own is entered. -/
def EntersF (f : FuncId) : Prop := ∀ (args : Array Value) (W : World), (callFunc f args).run Tryd.prog W = .ok (.enter f args) W
theorem entersF {f : FuncId} {fn : Func} (hf : Tryd.prog.funcs[f]? = some fn) (hn : (fn.name == "runtime.NumGoroutine") = false) (hb : fn.body.isNone = false) : EntersF f := by
  intro args W
  have hn' : ¬ fn.name = "runtime.NumGoroutine" := by simpa using hn
  have hb' : ¬ fn.body = none := by rintro e; rw [e] at hb; cases hb
  simp [callFunc, hf, hn', hb']

/-! ### The values of package api -/
structure Lat where
  names : List ByteArray
  up : List Nat
structure Instr where
  op : Int
  n : Int
  l : Int
  deriving DecidableEq
structure Tok where
  kind : Int
  text : ByteArray
  at_ : Int
structure Row where
  may : List Int
  res : List Int
  pc : List Int
def kUp : Kd Nat := Kd.iso (Kd.int .u32) (fun n : Nat => (n : Int))
def kInt : Kd Int := Kd.int .i64
def kInstr : Kd Instr := Kd.iso (Kd.pair kInt (Kd.pair kInt kInt)) (fun x => (x.op, x.n, x.l))
def kTok : Kd Tok := Kd.iso (Kd.pair kInt (Kd.pair Kd.string kInt)) (fun x => (x.kind, x.text, x.at_))
def kRow : Kd Row := Kd.iso (Kd.pair (Kd.slice 3 kInt) (Kd.pair (Kd.slice 3 kInt) (Kd.slice 3 kInt))) (fun x => (x.may, x.res, x.pc))
def kLat : Kd Lat := Kd.iso (Kd.pair (Kd.slice 9 Kd.string) (Kd.slice 60 kUp)) (fun x => (x.names, x.up))
theorem kInstr_open {w : World} {x : Instr} {cs : List Value} (h : kInstr.K w x cs) : cs = [.int .i64 x.op, .int .i64 x.n, .int .i64 x.l] := by
  obtain ⟨_, _, rfl, rfl, ⟨_, _, rfl, rfl, rfl⟩⟩ := h
  exact rfl
theorem kTok_open {w : World} {x : Tok} {cs : List Value} (h : kTok.K w x cs) : cs = [.int .i64 x.kind, .string x.text, .int .i64 x.at_] := by
  obtain ⟨_, _, rfl, rfl, ⟨_, _, rfl, rfl, rfl⟩⟩ := h
  exact rfl
theorem kInstr_mk (w : World) (x : Instr) : kInstr.K w x [.int .i64 x.op, .int .i64 x.n, .int .i64 x.l] := ⟨[_], [_, _], rfl, rfl, ⟨[_], [_], rfl, rfl, rfl⟩⟩
theorem kTok_mk (w : World) (x : Tok) : kTok.K w x [.int .i64 x.kind, .string x.text, .int .i64 x.at_] := ⟨[_], [_, _], rfl, rfl, ⟨[_], [_], rfl, rfl, rfl⟩⟩

theorem add_field (a : Addr) (i j : Nat) (h : 0 < j) : a.add (i + j) = ⟨(a.add i).block, (a.add i).off + j, none⟩ := by
  unfold Addr.add
  by_cases hi : i = 0
  · subst hi; simp; omega
  · simp [hi]; omega
theorem add_plus (a : Addr) (i j : Nat) : (a.add i).add j = a.add (i + j) := by
  unfold Addr.add
  by_cases hi : i = 0 <;> by_cases hj : j = 0 <;> simp [hi, hj, Nat.add_assoc]

/-- An element; behind the end: z. -/
def nth {α : Type} (z : α) (xs : List α) (k : Nat) : α := xs.getD k z
theorem nth_get {α : Type} (z : α) {xs : List α} {k : Nat} (hk : k < xs.length) : nth z xs k = xs[k] := by
  unfold nth
  rw [List.getD_eq_getElem?_getD, List.getElem?_eq_getElem hk]
  rfl
theorem nth_mem {α : Type} (z : α) {xs : List α} {k : Nat} (hk : k < xs.length) : nth z xs k ∈ xs := by
  rw [nth_get z hk]
  exact List.getElem_mem hk
theorem take_nth {α : Type} (z : α) {xs : List α} {k : Nat} (hk : k < xs.length) : xs.take (k + 1) = xs.take k ++ [nth z xs k] := by
  rw [nth_get z hk, List.take_succ_eq_append_getElem hk]
section
variable {w : World} {A : Option Addr}
/-- Element k of a row of one-cell elements. -/
theorem at_one {α : Type} {d : Kd α} {xs : List α} {n : Nat} (enc : α → Value) (hK : ∀ x cs, d.K w x cs → cs = [enc x]) (hs : d.sz = 1) (h : d.C w A n xs) (z : α) {k : Nat} (hk : k < n) :
    ∃ ad, A = some ad ∧ w.cell? (ad.add k) = some (enc (nth z xs k)) ∧ (ad.add k).block < w.heap.size := by
  obtain ⟨ad, c, e, _, hK0, hc⟩ := Kd.C_get h z (k : Int) (by omega) (by omega)
  have e2 := hK _ _ hK0
  subst e2
  have h0 := hc 0 _ rfl
  have h1 : w.cell? (ad.add k) = some (enc (nth z xs k)) := by simpa [hs, nth] using h0
  exact ⟨ad, e, h1, World.block_lt_of_cell? w _ h1⟩
theorem at_up {xs : List Nat} {n : Nat} (h : kUp.C w A n xs) {k : Nat} (hk : k < n) : ∃ ad, A = some ad ∧ w.cell? (ad.add k) = some (.int .u32 ((nth 0 xs k : Nat) : Int)) ∧ (ad.add k).block < w.heap.size :=
  at_one (d := kUp) (fun x => .int .u32 (x : Int)) (fun _ _ h => h) rfl h 0 hk
theorem at_int {xs : List Int} {n : Nat} (h : kInt.C w A n xs) {k : Nat} (hk : k < n) : ∃ ad, A = some ad ∧ w.cell? (ad.add k) = some (.int .i64 (nth 0 xs k)) ∧ (ad.add k).block < w.heap.size :=
  at_one (d := kInt) (fun x => .int .i64 x) (fun _ _ h => h) rfl h 0 hk
theorem at_str {xs : List ByteArray} {n : Nat} (h : Kd.string.C w A n xs) {k : Nat} (hk : k < n) : ∃ ad, A = some ad ∧ w.cell? (ad.add k) = some (.string (nth ByteArray.empty xs k)) ∧ (ad.add k).block < w.heap.size :=
  at_one (d := Kd.string) (fun x => .string x) (fun _ _ h => h) rfl h ByteArray.empty hk
def zInstr : Instr := ⟨0, 0, 0⟩
def zTok : Tok := ⟨0, ByteArray.empty, 0⟩
theorem at_instr {xs : List Instr} {n : Nat} (h : kInstr.C w A n xs) {k : Nat} (hk : k < n) : ∃ ad, A = some ad ∧ w.cell? (ad.add (k * 3)) = some (.int .i64 (nth zInstr xs k).op) ∧
    w.cell? ⟨(ad.add (k * 3)).block, (ad.add (k * 3)).off + 1, none⟩ = some (.int .i64 (nth zInstr xs k).n) ∧ w.cell? ⟨(ad.add (k * 3)).block, (ad.add (k * 3)).off + 2, none⟩ = some (.int .i64 (nth zInstr xs k).l) ∧ (ad.add (k * 3)).block < w.heap.size := by
  obtain ⟨ad, c, e, _, hK, hc0⟩ := Kd.C_get h zInstr (k : Int) (by omega) (by omega)
  have hc : ∀ j u, c[j]? = some u → w.cell? (ad.add (k * 3 + j)) = some u := hc0
  obtain rfl := kInstr_open hK
  exact ⟨ad, e, hc 0 _ rfl, by rw [← add_field _ _ 1 (by omega)]; exact hc 1 _ rfl, by rw [← add_field _ _ 2 (by omega)]; exact hc 2 _ rfl, World.block_lt_of_cell? w _ (hc 0 _ rfl)⟩
theorem at_tok {xs : List Tok} {n : Nat} (h : kTok.C w A n xs) {k : Nat} (hk : k < n) : ∃ ad, A = some ad ∧ w.cell? (ad.add (k * 3)) = some (.int .i64 (nth zTok xs k).kind) ∧
    w.cell? ⟨(ad.add (k * 3)).block, (ad.add (k * 3)).off + 1, none⟩ = some (.string (nth zTok xs k).text) ∧ w.cell? ⟨(ad.add (k * 3)).block, (ad.add (k * 3)).off + 2, none⟩ = some (.int .i64 (nth zTok xs k).at_) ∧ (ad.add (k * 3)).block < w.heap.size := by
  obtain ⟨ad, c, e, _, hK, hc0⟩ := Kd.C_get h zTok (k : Int) (by omega) (by omega)
  have hc : ∀ j u, c[j]? = some u → w.cell? (ad.add (k * 3 + j)) = some u := hc0
  obtain rfl := kTok_open hK
  exact ⟨ad, e, hc 0 _ rfl, by rw [← add_field _ _ 1 (by omega)]; exact hc 1 _ rfl, by rw [← add_field _ _ 2 (by omega)]; exact hc 2 _ rfl, World.block_lt_of_cell? w _ (hc 0 _ rfl)⟩
end

/-! ### A lattice as it is handed over -/
structure LatAt (w : World) (An : Option Addr) (cn : Nat) (Au : Option Addr) (cu : Nat) (L : Lat) : Prop where
  names : Kd.string.C w An L.names.length L.names
  up : kUp.C w Au L.up.length L.up
  hn : L.names.length ≤ cn
  hu : L.up.length ≤ cu
  hs : ∀ s ∈ L.names, s.size ≤ 9223372036854775807
  small : ∀ n ∈ L.up, n < 4294967296
theorem LatAt.below {w w1 : World} {An Au : Option Addr} {cn cu : Nat} {L : Lat} (h : LatAt w An cn Au cu L) (hb : Below w.heap.size w w1) : LatAt w1 An cn Au cu L :=
  ⟨Kd.C_below h.names hb, Kd.C_below h.up hb, h.hn, h.hu, h.hs, h.small⟩
theorem LatAt.alloc {w : World} {An Au : Option Addr} {cn cu : Nat} {L : Lat} (h : LatAt w An cn Au cu L) (o : Obj) : LatAt (w.alloc o) An cn Au cu L := h.below (below_new o)
theorem LatAt.lenu {w : World} {An Au : Option Addr} {cn cu : Nat} {L : Lat} (h : LatAt w An cn Au cu L) : L.up.length ≤ 9223372036854775807 := h.up.2.1
theorem LatAt.lenn {w : World} {An Au : Option Addr} {cn cu : Nat} {L : Lat} (h : LatAt w An cn Au cu L) : L.names.length ≤ 9223372036854775807 := h.names.2.1
def upAt (L : Lat) (k : Nat) : Nat := nth 0 L.up k
theorem LatAt.upAt_lt {w : World} {An Au : Option Addr} {cn cu : Nat} {L : Lat} (h : LatAt w An cn Au cu L) (k : Nat) : upAt L k < 4294967296 := by
  unfold upAt nth
  rw [List.getD_eq_getElem?_getD]
  cases e : L.up[k]? with
  | none => simp
  | some x => exact h.small x (List.mem_of_getElem? e)
theorem LatAt.at_up {w : World} {An Au : Option Addr} {cn cu : Nat} {L : Lat} (h : LatAt w An cn Au cu L) {k : Nat} (hk : k < L.up.length) : ∃ ad, Au = some ad ∧ w.cell? (ad.add k) = some (.int .u32 ((upAt L k : Nat) : Int)) ∧ (ad.add k).block < w.heap.size :=
  Go.Proofs.YtmcafcgbbhcjhaaDoor.at_up h.up hk

/-! ### Bits of 32 -/
theorem u32_and (a b : Nat) (ha : a < 4294967296) (hb : b < 4294967296) : bits .and .u32 (a : Int) (b : Int) = ((a &&& b : Nat) : Int) := by
  have hx : a &&& b < 2 ^ 32 := Nat.and_lt_two_pow _ (by omega)
  show IntKind.u32.wrap ((BitVec.ofInt 32 (a : Int) &&& BitVec.ofInt 32 (b : Int)).toNat : Int) = _
  rw [BitVec.toNat_and, BitVec.ofInt_natCast, BitVec.ofInt_natCast, BitVec.toNat_ofNat, BitVec.toNat_ofNat, Nat.mod_eq_of_lt (by omega), Nat.mod_eq_of_lt (by omega)]
  simp only [IntKind.wrap]
  have : ((a &&& b : Nat) : Int) < 4294967296 := by omega
  simp [IntKind.signed, IntKind.bits]
  omega
theorem u32_or (a b : Nat) (ha : a < 4294967296) (hb : b < 4294967296) : bits .or .u32 (a : Int) (b : Int) = ((a ||| b : Nat) : Int) := by
  have hx : a ||| b < 2 ^ 32 := Nat.or_lt_two_pow (by omega) (by omega)
  show IntKind.u32.wrap ((BitVec.ofInt 32 (a : Int) ||| BitVec.ofInt 32 (b : Int)).toNat : Int) = _
  rw [BitVec.toNat_or, BitVec.ofInt_natCast, BitVec.ofInt_natCast, BitVec.toNat_ofNat, BitVec.toNat_ofNat, Nat.mod_eq_of_lt (by omega), Nat.mod_eq_of_lt (by omega)]
  simp only [IntKind.wrap]
  simp [IntKind.signed, IntKind.bits]
  omega
theorem shr_nat (x m : Nat) : (x : Int) / 2 ^ m = ((x / 2 ^ m : Nat) : Int) := by
  rw [Int.natCast_ediv, Int.natCast_pow]; rfl
theorem div_small {x m : Nat} (hx : x < 4294967296) : x / 2 ^ m < 4294967296 := Nat.lt_of_le_of_lt (Nat.div_le_self _ _) hx
theorem bit_nat (x b : Nat) (hx : x < 4294967296) : x / 2 ^ min b 32 % 2 = (x.testBit b).toNat := by
  rw [Nat.testBit, Nat.shiftRight_eq_div_pow]
  rcases Nat.le_total b 32 with h | h
  · rw [Nat.min_eq_left h, Nat.one_and_eq_mod_two, Nat.mod_two_bne_zero]
    rcases Nat.mod_two_eq_zero_or_one (x / 2 ^ b) with e | e <;> simp [e]
  · rw [Nat.min_eq_right h]
    have h1 : x / 2 ^ 32 = 0 := Nat.div_eq_of_lt (by omega)
    have h2 : x / 2 ^ b = 0 := Nat.div_eq_of_lt (Nat.lt_of_lt_of_le (show x < 2 ^ 32 by omega) (Nat.pow_le_pow_right (by omega) h))
    simp [h1, h2]
theorem bit_and (x b : Nat) (hx : x < 4294967296) : bits .and .u32 ((x : Int) / 2 ^ min b 32) 1 = ((x.testBit b).toNat : Int) := by
  rw [shr_nat, show (1 : Int) = ((1 : Nat) : Int) from rfl, u32_and _ _ (div_small hx) (by omega), Nat.and_one_is_mod, bit_nat x b hx]
theorem bit_at (x b : Nat) (hx : x < 4294967296) : (bits .and .u32 ((x : Int) / 2 ^ min b 32) 1 == 1) = x.testBit b := by
  rw [bit_and x b hx]
  cases x.testBit b <;> rfl
end Go.Proofs.YtmcafcgbbhcjhaaDoor
