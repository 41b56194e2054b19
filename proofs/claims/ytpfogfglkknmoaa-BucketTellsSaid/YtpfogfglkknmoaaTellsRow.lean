/- BucketTells: for any input the law answers true, and each argument reads behind the call as it read before. No condition. -/
import Derived.Test.YtpfogfglkknmoaaTells
import Derived.Test.YtpfogfglkknmoaaRaws
namespace Go.Proofs.Ytpfogfglkknmoaa
open Go.ChangeShapes Go.WideShapes Go.ChangeAt Go.RowKit
open Go.ChangeMaps (open_string shut_string)
namespace Tells
theorem cells43 : Try.prog.cellsOf 43 = 2 := by kernel_rfl
theorem cells9 : Try.prog.cellsOf 9 = 1 := by kernel_rfl
theorem cells2 : Try.prog.cellsOf 2 = 1 := by kernel_rfl
theorem cells54 : Try.prog.cellsOf 54 = 3 := by kernel_rfl
theorem own : ownKnob Try.prog.godebug = none := by kernel_rfl
theorem laidOut : laidOutB Try.prog = true := by kernel_rfl
theorem cells3 : Try.prog.cellsOf 3 = 1 := by kernel_rfl
theorem cells23 : Try.prog.cellsOf 23 = 3 := by kernel_rfl
theorem types_ok : ∀ t ∈ Try.f9.params.toList, Try.prog.readableRec t = true ∧ t < Try.prog.types.size := by
  rw [Try.params9]
  intro t ht
  simp only [List.mem_cons, List.not_mem_nil, or_false] at ht
  rcases ht with rfl | rfl | rfl
  all_goals exact ⟨by kernel_rfl, of_decide_eq_true (by kernel_rfl)⟩
set_option maxRecDepth 100000 in
theorem lifted (os : Os) (started : os.Started) (H : Type) (enc : TypeId × Value → H) :
    ReturnsInHanded {} Try.checked os 9 .any (Rows.bucketTellsSpec.pre6 enc Try.prog Try.f9 Rows.bucketTellsRow.domain false) (Rows.bucketTellsSpec.post enc Try.prog Try.f9 false true false false) := by
  refine returnsInHanded_of_change (C := Try.checked) own started (by kernel_rfl) Try.func9
    (ChangeSpec.witness6 (enc := enc) (C := Try.checked) false ⟨#[], #[.slice none 0 0, .slice none 0 0, .agg #[.int .i64 0, .int .i64 0, .int .i64 0]], []⟩ 8 (by kernel_rfl) (by kernel_rfl) (by kernel_rfl) (by kernel_rfl)) ?_
  intro W base args ds gs before hval0 hW _ _
  have hval : ∀ (j : Nat) t v, Try.f9.params[j]? = some t → args[j]? = some v → Value.okWide Try.prog W .any base t v := hval0
  have hW' := hW
  obtain ⟨p, q, hA0, hV, rfl, hfz, hnd⟩ := hW
  have hA : DataW.TrodAll enc Try.prog W 0 (fun _ => true) true Try.f9.params.toList args.toList ds p := hA0
  rw [Try.params9] at hA hval
  obtain ⟨v0, vs0, d0, ds0, p0, q0, hargs, rfl, rfl, h0, r0⟩ := trodAll_cons hA
  obtain ⟨v1, vs1, d1, ds1, p1, q1, rfl, rfl, rfl, h1, r1⟩ := trodAll_cons r0
  obtain ⟨v2, vs2, d2, ds2, p2, q2, rfl, rfl, rfl, h2, r2⟩ := trodAll_cons r1
  obtain ⟨rfl, rfl, rfl⟩ := trodAll_nil r2
  obtain rfl : args = #[v0, v1, v2] := by cases args; simp_all
  obtain ⟨rfl, rfl⟩ := trodVars_none hV
  obtain ⟨a2_0, a2_1, a2_2, rfl, w2⟩ := open_arr3 Try.underlying23 Try.underlying3 cells3 cells23 (hval 2 23 v2 rfl rfl) h2
  obtain ⟨A0, n0, c0, f0, rfl, hl0, hm0, hs0⟩ := open_pairs Try.underlying22 Try.underlying43 Try.underlying3 cells3 cells43 (hval 0 22 v0 rfl rfl) h0
  obtain ⟨A1, n1, c1, f1, rfl, hm1, hs1⟩ := open_raws Try.underlying25 Try.underlying54 Try.underlying9 Try.underlying3 Try.underlying2 rfl rfl rfl cells9 cells3 cells2 cells54 (hval 1 25 v1 rfl rfl) h1
  refine (walk A0 n0 c0 f0 hl0 hm0 A1 n1 c1 f1 hm1 a2_0 a2_1 a2_2 W hs0 hs1).mono fun e W' ⟨he, hg⟩ => ?_
  subst he
  exact ⟨_, rfl, law_post laidOut rfl rfl Try.underlying4 types_ok hW' rfl hg⟩
theorem holds : Rows.BucketTellsSaid :=
  OpenClaim.holds_of_wide 9 Try.f9 rfl rfl rfl rfl rfl rfl rfl ⟨rfl, rfl, rfl, rfl, rfl⟩ rfl rfl rfl rfl rfl (by kernel_rfl) Try.func9 (by kernel_rfl)
    (of_decide_eq_true (by kernel_rfl)) (by unfold Func.isWrapper; first | (rw [if_pos (by decide +kernel)]; kernel_rfl) | (rw [if_neg (by decide +kernel)]; exact ⟨rfl, rfl⟩))
    (fun os started H enc _ => lifted os started H enc)
end Tells
theorem bucketTells_holds : Rows.BucketTellsSaid := Tells.holds
#print axioms bucketTells_holds
end Go.Proofs.Ytpfogfglkknmoaa
