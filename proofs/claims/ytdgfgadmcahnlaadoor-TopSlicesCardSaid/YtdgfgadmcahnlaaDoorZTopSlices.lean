/- TopSlices returns true for every input, and leaves it as it was; of the program whose library tables are laid as its text lays them. -/
import Derived.Test.YtdgfgadmcahnlaaDoorZL24
import Derived.Test.YtdgfgadmcahnlaaDoorTL24
set_option linter.unusedSimpArgs false
set_option linter.unusedVariables false
namespace Go.Ab
open Go Go.Ab Go.Proofs Go.Ab.Ty
theorem law10 (xs : List AV) (hlen : xs.length = Tryd.f10.params.size) (h : ∀ (j : Nat) t a, Tryd.f10.params[j]? = some t → xs[j]? = some a → ShV Tryd.prog t a) : FnM Tryd.prog mm24 10 xs (.bool true) := by
  rw [Tryd.params10] at hlen h
  match xs, hlen, h with
  | [a0, a1], _, h =>
    obtain ⟨s0, rfl, hs0⟩ := shS24 (h 0 9 a0 rfl rfl)
    obtain ⟨l1, rfl, hl1, hr1⟩ := shL45 (h 1 45 a1 rfl rfl)
    exact slices10_law s0 l1 hl1 hr1
end Go.Ab
namespace Go.Proofs.YtdgfgadmcahnlaaDoor.topSlices
open Go.ChangeShapes Go.WideShapes Go.ChangeAt Go.RowKit Go.Lib Go.Ab
theorem laid_met (os : Os) : laidMet Tryd.prog Rows.topSlicesRow.laid ((laidWorld os).forCall (fun _ _ => 0) ⟨#[], #[.string ByteArray.empty, .slice none 0 0], []⟩).memory :=
  laidMet_of_run' 8 (by kernel_rfl) (by kernel_rfl)
theorem reads (os : Os) {H : Type} (enc : TypeId × Value → H) : ∃ places, DataW.whole enc Tryd.prog ((laidWorld os).forCall (fun _ _ => 0) ⟨#[], #[.string ByteArray.empty, .slice none 0 0], []⟩).memory Tryd.f10.params.toList Rows.topSlicesSpec.vars false #[Value.string ByteArray.empty, Value.slice none 0 0].toList 8 = some ([.lit (.string []), .nil], [], places) :=
  ⟨[], by kernel_rfl⟩
set_option maxRecDepth 100000 in
theorem lifted (os : Os) (started : os.Started) (H : Type) (enc : TypeId × Value → H) (F : Stop.Interp) :
    ReturnsInHanded {} Tryd.checked os 10 .any ((OpenSpec.ofChange Rows.topSlicesSpec).preRow enc Tryd.prog Tryd.f10 Rows.topSlicesRow.domain false Rows.topSlicesRow.laid) (((OpenSpec.ofChange Rows.topSlicesSpec).at F).post enc Tryd.prog Tryd.f10 false true false false) := by
  obtain ⟨places, hx⟩ := reads os enc
  refine returnsInHanded_of_row (C := Tryd.checked) (s := OpenSpec.ofChange Rows.topSlicesSpec) own started (by kernel_rfl) Tryd.func10
    (witness_row_at (enc := enc) (C := Tryd.checked) false (laidWorld os) #[.string ByteArray.empty, .slice none 0 0] rfl (by kernel_rfl) (by kernel_rfl) (by kernel_rfl)
      (OpenSpec.preRow_of_cond 8 hx (by kernel_rfl) (fun k hk => by cases hk) (by kernel_rfl) (laid_met os))) ?_
  intro W base args ds gs before hval hW _ _ _ hL _ _
  exact Go.Ab.law_contractM (S := [9, 45, 46]) (tb := 4) (by kernel_rfl) (by kernel_rfl) (by kernel_rfl) (by kernel_rfl) Tryd.underlying4 rfl
    (fun ds h => by match ds, h with | [d0, d1], _ => rfl) Go.Ab.law10 W base args ds gs before hval hW (tabs hL)
theorem said : Rows.TopSlicesSaid :=
  OpenClaim.holds_of_cond 10 Tryd.f10 rfl rfl rfl rfl rfl rfl rfl ⟨rfl, rfl, rfl, rfl, rfl⟩ rfl rfl rfl rfl rfl (by kernel_rfl) Tryd.func10 (by kernel_rfl)
    (of_decide_eq_true (by kernel_rfl)) (by unfold Func.isWrapper; first | (rw [if_pos (by decide +kernel)]; kernel_rfl) | (rw [if_neg (by decide +kernel)]; exact ⟨rfl, rfl⟩))
    (fun os started H enc _ F => by rw [OpenClaim.pre_eq_preRow]; exact lifted os started H enc F)
theorem plain (f : FuncId) (fn : Func) (hf : Tryd.pinned.checked.prog.funcNamed "covalent/covalenttop.TopSlices" = some f) (hfn : Tryd.pinned.checked.prog.funcs[f]? = some fn) :
    false = Tryd.pinned.checked.prog.looks [] ∧ ∀ (j : Nat) t, fn.params[j]? = some t → Tryd.pinned.checked.prog.wantsStandIn t = false := by
  obtain rfl : f = 10 := Option.some.inj ((show Tryd.prog.funcNamed "covalent/covalenttop.TopSlices" = some 10 by kernel_rfl).symm.trans hf) |>.symm
  obtain rfl : fn = Tryd.f10 := (Option.some.inj (Tryd.func10.symm.trans hfn)).symm
  refine ⟨by kernel_rfl, fun j t ht => ?_⟩
  rw [Tryd.params10] at ht
  have h := Array.mem_of_getElem? ht
  simp only [List.mem_toArray, List.mem_cons, List.not_mem_nil, or_false] at h
  rcases h with rfl | rfl
  · exact (show Tryd.prog.wantsStandIn 9 = false by kernel_rfl)
  · exact (show Tryd.prog.wantsStandIn 45 = false by kernel_rfl)
theorem card : Rows.TopSlicesCardSaid :=
  Claim7.holds_tied_plain_at .later [] _ _ _ _ said (fun _ h => by cases h) (by kernel_rfl) (fun _ h => by cases h) topSlices_row_tie rfl ⟨rfl, rfl⟩ (by kernel_rfl) rfl plain (by kernel_rfl)
end Go.Proofs.YtdgfgadmcahnlaaDoor.topSlices
namespace Go.Proofs.YtdgfgadmcahnlaaDoor
theorem topSlicesHolds : Rows.TopSlicesCardSaid := topSlices.card
end Go.Proofs.YtdgfgadmcahnlaaDoor
