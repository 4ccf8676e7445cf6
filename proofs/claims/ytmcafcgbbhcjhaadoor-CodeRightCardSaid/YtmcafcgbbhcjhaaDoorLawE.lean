/- The card of reticentlaw08.CodeRight: for every lattice and any two programs the law returns true, and each argument reads afterwards as it read before; the listed package variables are as the program's text lays them. -/
import Derived.Test.YtmcafcgbbhcjhaaDoorCards
import Derived.Test.YtmcafcgbbhcjhaaDoorTie
import Derived.Test.YtmcafcgbbhcjhaaDoorLawD
import Derived.Test.YtmcafcgbbhcjhaaDoorOpenA
import Derived.ChangeSame
import Derived.ChangeVars
import Derived.JoinedOf
import Derived.SevenTiedAt
namespace Go.Proofs.YtmcafcgbbhcjhaaDoor
open Go.ChangeShapes Go.WideShapes Go.RowKit Go.Joins Go.Proofs.YtmcafcgbbhcjhaaDoorW.PrintWords

theorem ownKnob_none : ownKnob Tryd.prog.godebug = none := by kernel_rfl
theorem laidOutC : laidOutB Tryd.prog = true := by kernel_rfl
theorem gWords : Tryd.prog.globalNamed "reticent/table.words" = some 0 := by kernel_rfl
theorem tWords : (Tryd.prog.globals[0]?).map (·.type) = some 76 := by kernel_rfl
theorem words_laid {H : Type} : Rows.laid_reticent_table_words (H := H) = .agg (wordsL.map fun s => .lit (.string s.data.toList)) := rfl
theorem codeRight_door (os : Os) (args : Array Value) : laidMetH Tryd.prog Rows.codeRightRow.laid ((World.doorLaid Tryd.prog 44 os).forCall (fun _ _ => 0) ⟨#[], args, []⟩).memory :=
  laidMetH_of_parts3 (fuel := 8) (laidMet_of_run' 8 (by kernel_rfl) (by kernel_rfl)) (by kernel_rfl) (by kernel_rfl)
theorem codeRight_words {W : World} (h : laidMetH Tryd.prog Rows.codeRightRow.laid W) : WordsAt W := by
  rw [MakeChecks.laidMetH_plain _ _ _ (by kernel_rfl)] at h
  obtain ⟨ps, ⟨g0, t0, cs0, f0, p0, q0, hg0, ht0, hv0, hd0, ⟨g1, t1, cs1, f1, p1, q1, hg1, ht1, hv1, hd1, ⟨g2, t2, cs2, f2, p2, q2, hg2, ht2, hv2, hd2, ⟨g3, t3, cs3, f3, p3, q3, hg3, ht3, hv3, hd3, _, _⟩, _⟩, _⟩, _⟩, _, _⟩ := h
  obtain rfl := Option.some.inj (gWords.symm.trans hg3)
  obtain rfl := Option.some.inj (tWords.symm.trans ht3)
  rw [words_laid] at hd3
  have hw := fun k hk => words_of hd3 k hk
  have hc : ∀ k, k < 13 → W.cell? ⟨0, k, none⟩ = some (.string (wordAt k)) := fun k hk => by
    rw [World.var?_cell hg3 hv3 k]
    have := hw k hk
    simpa using this
  exact ⟨hc, World.block_lt_of_cell? W _ (hc 0 (by omega))⟩

set_option maxRecDepth 100000 in
theorem codeRight_lifted (os : Os) (started : os.Started) (H : Type) (enc : TypeId × Value → H) :
    ReturnsInHanded {} Tryd.checked os 3 .any (fun w args => (Rows.codeRightSpec.pre enc Tryd.prog Tryd.f3 [] false w args ∧ laidMetH Tryd.prog Rows.codeRightRow.laid w) ∧ sizedMet enc Tryd.prog Tryd.f3 (OpenSpec.ofChange Rows.codeRightSpec) false w args)
      (Rows.codeRightSpec.post enc Tryd.prog Tryd.f3 false true false false) := by
  refine returnsInHanded_of_change_and (C := Tryd.checked) (X := fun w _ => laidMetH Tryd.prog Rows.codeRightRow.laid w) (fun _ _ _ hh h => h.of_heap hh) ownKnob_none started (by kernel_rfl) Tryd.func3
    (ChangeSpec.witness_shaped (enc := enc) (C := Tryd.checked) (os := os) (X := fun w _ => laidMetH Tryd.prog Rows.codeRightRow.laid w) false (World.doorLaid Tryd.prog 44 os) #[.agg #[.slice none 0 0, .slice none 0 0], .slice none 0 0, .slice none 0 0] 8 rfl (World.shaped_of_RefB (by kernel_rfl) (by kernel_rfl)) (by kernel_rfl) (by kernel_rfl) (by kernel_rfl) (codeRight_door os _)) ?_
  intro W base args ds gs before hval0 hW _ _ hL _
  have hval : ∀ (j : Nat) t v, Tryd.f3.params[j]? = some t → args[j]? = some v → Value.okWide Tryd.prog W .any base t v := hval0
  have hW' := hW
  obtain ⟨p, q, hA0, hV, rfl, hfz, hnd⟩ := hW
  have hA : DataW.TrodAll enc Tryd.prog W 0 (fun _ => true) true Tryd.f3.params.toList args.toList ds p := hA0
  rw [Tryd.params3] at hA hval
  obtain ⟨v0, v1, v2, d0, d1, d2, p0, p1, p2, rfl, rfl, rfl, h0, h1, h2⟩ := trodAll_three hA
  obtain ⟨rfl, rfl⟩ := trodVars_none hV
  have hWd := codeRight_words hL
  have lt0 : ∀ x ∈ p0, x.block < W.heap.size := by obtain ⟨m, hm⟩ := h0; exact DataW.trod_lt m _ _ _ hm
  have lt1 : ∀ x ∈ p1, x.block < W.heap.size := by obtain ⟨m, hm⟩ := h1; exact DataW.trod_lt m _ _ _ hm
  have lt2 : ∀ x ∈ p2, x.block < W.heap.size := by obtain ⟨m, hm⟩ := h2; exact DataW.trod_lt m _ _ _ hm
  obtain ⟨An, cn, Au, cu, L, e0, hLat⟩ := open_lat (hval 0 _ v0 rfl rfl) h0
  obtain ⟨Aa, la, ca, e1⟩ := okWide_slice Tryd.underlying26 (hval 1 _ v1 rfl rfl)
  obtain ⟨Ab, lb, cb, e2⟩ := okWide_slice Tryd.underlying26 (hval 2 _ v2 rfl rfl)
  have k1 := h1
  have k2 := h2
  obtain ⟨fa, ha⟩ := h1
  obtain ⟨fb, hb⟩ := h2
  subst e1 e2
  obtain ⟨A1, c1, a, ea, hca, hCa⟩ := open_instrs ha
  obtain ⟨A2, c2, b, eb, hcb, hCb⟩ := open_instrs hb
  simp only [Value.cells, List.cons.injEq, and_true, Value.slice.injEq] at ea eb
  obtain ⟨rfl, rfl, rfl⟩ := ea
  obtain ⟨rfl, rfl, rfl⟩ := eb
  subst e0
  clear hA0 hval0
  refine (codeRight_any hWd hLat hCa hCb hca hcb).mono fun e W' ⟨he, bel⟩ => ?_
  subst he
  exact ⟨_, rfl, _, _, _, [], _, [], hW', trodAll_mk1 (shut_bool Tryd.underlying4 _), (trodAll_cons_mk (Below.trod laidOutC (by kernel_rfl) (of_decide_eq_true (by kernel_rfl)) h0 bel lt0) (trodAll_cons_mk (Below.trod laidOutC (by kernel_rfl) (of_decide_eq_true (by kernel_rfl)) k1 bel lt1) (trodAll_cons_mk (Below.trod laidOutC (by kernel_rfl) (of_decide_eq_true (by kernel_rfl)) k2 bel lt2) trodAll_mk0))), rfl, bel.frame _, fun h => by cases h⟩
theorem codeRight_row : Rows.CodeRightSaid :=
  OpenClaim.holds_of_wide 3 Tryd.f3 rfl rfl rfl rfl rfl rfl rfl ⟨rfl, rfl, rfl, rfl, rfl⟩ rfl rfl rfl rfl rfl (by kernel_rfl) Tryd.func3 (by kernel_rfl)
    (of_decide_eq_true (by kernel_rfl)) (by unfold Func.isWrapper; first | (rw [if_pos (by decide +kernel)]; kernel_rfl) | (rw [if_neg (by decide +kernel)]; exact ⟨rfl, rfl⟩))
    (fun os started H enc _ => codeRight_lifted os started H enc)
/-- The tied card. -/
theorem codeRight_holds : Rows.CodeRightCardSaid :=
  Claim7.holds_tied_plain_at .later [] [.data, .data, .data, .widerDeep] true (true, "7d812b84698cb5cf83cfda95cb16c8b750c29074cfb338616d1d80cff8b69850") false
    codeRight_row (fun _ h => by cases h) (by kernel_rfl) (fun _ h => by cases h) codeRight_row_tie rfl ⟨rfl, rfl⟩ (by kernel_rfl) rfl
    (fun f fn hf hfn => by
      obtain rfl : f = 3 := Option.some.inj ((show Tryd.prog.funcNamed "reticent/reticentlaw08.CodeRight" = some 3 by kernel_rfl).symm.trans hf) |>.symm
      obtain rfl : fn = Tryd.f3 := (Option.some.inj (Tryd.func3.symm.trans hfn)).symm
      exact ⟨by kernel_rfl, fun j t ht => by
        rw [Tryd.params3] at ht
        have h3 : t = 25 ∨ t = 26 := by
          rcases j with _ | _ | _ | j
          · exact .inl (by simpa using ht.symm)
          · exact .inr (by simpa using ht.symm)
          · exact .inr (by simpa using ht.symm)
          · simp at ht
        rcases h3 with rfl | rfl
        · exact (show Tryd.prog.wantsStandIn 25 = false by kernel_rfl)
        · exact (show Tryd.prog.wantsStandIn 26 = false by kernel_rfl)⟩)
    (by kernel_rfl)
#print axioms codeRight_holds
end Go.Proofs.YtmcafcgbbhcjhaaDoor
