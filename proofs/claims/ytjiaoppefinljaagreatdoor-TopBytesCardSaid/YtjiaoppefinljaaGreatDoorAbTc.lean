/- Answers of functions of values alone, reckoned: wire.Read, wire.Bytes, event.Check, wire.Reply. -/
import Derived.Test.YtjiaoppefinljaaGreatDoorKh
namespace Go.Proofs.YtjiaoppefinljaaGreatDoor.Ab
open Go
set_option maxRecDepth 1000000
variable {gl : Nat → Option AV} {F : Nat → Prop} {w0 : World}
/-- values that bear no number of a block: structs of such, and results of several -/
def clo2 : AV → Bool
  | .agg l => cloL l
  | v => clo1 v
def clo2L : List AV → Bool
  | [] => true
  | v :: l => match clo2 v with | true => clo2L l | false => false
def clo3 : AV → Bool
  | .tup l => clo2L l
  | v => clo2 v
section
variable {ρ ρ' : Rho}
theorem clo2_any {v : AV} {u : Value} (h : clo2 v = true) (hv : VR ρ v u) : VR ρ' v u := by
  unfold clo2 at h
  split at h
  · cases hv with | agg _ us h1 => exact .agg _ _ (cloL_any h h1)
  · exact clo1_any h hv
theorem clo2L_any : ∀ {l : List AV} {us : List Value}, clo2L l = true → VRs ρ l us → VRs ρ' l us
  | [], _, _, h => by cases h; exact .nil
  | v :: l, _, hc, h => by
    cases h with
    | cons _ u _ us h1 h2 =>
      unfold clo2L at hc
      split at hc
      · rename_i h3
        exact .cons _ _ _ _ (clo2_any h3 h1) (clo2L_any hc h2)
      · cases hc
theorem clo3_any {v : AV} {u : Value} (h : clo3 v = true) (hv : VR ρ v u) : VR ρ' v u := by
  unfold clo3 at h
  split at h
  · cases hv with | tup _ us h1 => exact .tup _ _ (clo2L_any h h1)
  · exact clo2_any h hv
end
def sameT (a b : AV) : Bool :=
  match a with
  | .tup l => (match b with | .tup m => sameL l m | _ => false)
  | v => same 10 v b
theorem sameT_sound {a b : AV} (h : sameT a b = true) : a = b := by
  unfold sameT at h
  split at h
  · split at h
    · rw [sameL_spec h]
    · cases h
  · exact same_sound _ _ _ h
/-- what a run of a function alone comes to -/
def isW (r : AV) (v : AV) (_ : St) : Bool := match clo3 v with | true => sameT r v | false => false
theorem isW_spec {r v : AV} {σ : St} (h : isW r v σ = true) : clo3 r = true ∧ v = r := by
  unfold isW at h
  split at h
  · rename_i hc
    have := sameT_sound h
    subst this
    exact ⟨hc, rfl⟩
  · cases h
/-- tables of answers to such values -/
theorem memoW_ok {E : Env} {f : FuncId} {N : Nat} {t : List (List AV × AV)} (hE : ∀ F w0, EnvOk Tryz.prog (fun _ => none) F w0 E)
    (ht : ∀ x ∈ t, clo2L x.1 = true ∧ callF E (exec E N) f x.1 ⟨.lf, 0⟩ (isW x.2) = true) : MemoAt Tryz.prog gl F w0 f (memoV t) := by
  intro args us σ v ρ w h1 h2 h3
  obtain ⟨g1, g2⟩ := ht _ (lookV_mem h1)
  have hgl : GlOk (Old w) w (fun _ => none) := fun g v h => by cases h
  have hE' := hE (Old w) w
  have hx := exec_sound hE' hgl (fun ex hx => dreg_sound hE' hx hgl mixed) N
  refine (callF_sound hE' hx g2 (clo2L_any g1 h2) (hr_none Tryz.prog _ w 0)).mono ?_
  rintro u w' ⟨v', σ2, ρ2, e1, e2, e3, e4⟩
  obtain ⟨q1, rfl⟩ := isW_spec e1
  exact ⟨ρ, clo3_any q1 e2, h3.keep (kept_of e3), Ext.refl _ _⟩
/-- .. of a function that reads package-level variables -/
theorem memoW_okg {E : Env} {f : FuncId} {N : Nat} {t : List (List AV × AV)} (hE : ∀ F w0, GlOk F w0 gl → EnvOk Tryz.prog gl F w0 E) (hg : GlOk F w0 gl)
    (ht : ∀ x ∈ t, clo2L x.1 = true ∧ callF E (exec E N) f x.1 ⟨.lf, 0⟩ (isW x.2) = true) : MemoAt Tryz.prog gl F w0 f (memoV t) := by
  intro args us σ v ρ w h1 h2 h3
  obtain ⟨g1, g2⟩ := ht _ (lookV_mem h1)
  have hgl : GlOk (Old w) w gl := fun g v hv => by
    obtain ⟨hF, u, T, fr, hu, hr⟩ := hg g v hv
    exact ⟨Nat.lt_of_lt_of_le (h3.frame g hF).1 h3.size, u, T, fr, (h3.frame g hF).2.trans hu, hr⟩
  have hE' := hE (Old w) w hgl
  have hx := exec_sound hE' hgl (fun ex hx => dreg_sound hE' hx hgl mixed) N
  refine (callF_sound hE' hx g2 (clo2L_any g1 h2) (hr_none Tryz.prog gl w 0)).mono ?_
  rintro u w' ⟨v', σ2, ρ2, e1, e2, e3, e4⟩
  obtain ⟨q1, rfl⟩ := isW_spec e1
  exact ⟨ρ, clo3_any q1 e2, h3.keep (kept_of e3), Ext.refl _ _⟩
def a5_0 : List AV := [.str [1, 0, 1, 119, 6, 97, 64, 98, 46, 99, 100, 0, 0, 1, 112]]
def r5_0 : AV := .tup [.agg [.int Go.IntKind.i64 (.ofNat 1), .int Go.IntKind.i64 (.ofNat 0), .str [119], .str [97, 64, 98, 46, 99, 100], .str [], .str [], .str [112]], .int Go.IntKind.i64 (.ofNat 0)]
def a5_1 : List AV := [.str [2, 0, 1, 119, 6, 97, 64, 98, 46, 99, 100, 0, 16, 98, 105, 102, 113, 121, 100, 105, 111, 98, 52, 105, 98, 99, 101, 113, 116, 0]]
def r5_1 : AV := .tup [.agg [.int Go.IntKind.i64 (.ofNat 2), .int Go.IntKind.i64 (.ofNat 0), .str [119], .str [97, 64, 98, 46, 99, 100], .str [], .str [98, 105, 102, 113, 121, 100, 105, 111, 98, 52, 105, 98, 99, 101, 113, 116], .str []], .int Go.IntKind.i64 (.ofNat 0)]
def tab5 : List (List AV × AV) := [(a5_0, r5_0), (a5_1, r5_1)]
theorem t5_0 : callF E1 (exec E1 20000) 5 a5_0 ⟨.lf, 0⟩ (isW r5_0) = true := by decide +kernel
theorem t5_1 : callF E1 (exec E1 20000) 5 a5_1 ⟨.lf, 0⟩ (isW r5_1) = true := by decide +kernel
theorem tab5_ok : MemoAt Tryz.prog gl F w0 5 (memoV tab5) := by
  refine memoW_ok (N := 20000) E1_ok fun x hx => ?_
  unfold tab5 at hx
  simp only [List.mem_cons, List.not_mem_nil, or_false] at hx
  rcases hx with rfl | rfl
  · exact ⟨rfl, t5_0⟩
  · exact ⟨rfl, t5_1⟩
def a6_0 : List AV := [.agg [.int Go.IntKind.i64 (.ofNat 1), .int Go.IntKind.i64 (.ofNat 0), .str [119], .str [97, 64, 98, 46, 99, 100], .str [], .str [], .str [112]]]
def r6_0 : AV := .str [1, 0, 1, 119, 6, 97, 64, 98, 46, 99, 100, 0, 0, 1, 112]
def a6_1 : List AV := [.agg [.int Go.IntKind.i64 (.ofNat 2), .int Go.IntKind.i64 (.ofNat 0), .str [119], .str [97, 64, 98, 46, 99, 100], .str [], .str [98, 105, 102, 113, 121, 100, 105, 111, 98, 52, 105, 98, 99, 101, 113, 116], .str []]]
def r6_1 : AV := .str [2, 0, 1, 119, 6, 97, 64, 98, 46, 99, 100, 0, 16, 98, 105, 102, 113, 121, 100, 105, 111, 98, 52, 105, 98, 99, 101, 113, 116, 0]
def tab6 : List (List AV × AV) := [(a6_0, r6_0), (a6_1, r6_1)]
theorem t6_0 : callF E1 (exec E1 20000) 6 a6_0 ⟨.lf, 0⟩ (isW r6_0) = true := by decide +kernel
theorem t6_1 : callF E1 (exec E1 20000) 6 a6_1 ⟨.lf, 0⟩ (isW r6_1) = true := by decide +kernel
theorem tab6_ok : MemoAt Tryz.prog gl F w0 6 (memoV tab6) := by
  refine memoW_ok (N := 20000) E1_ok fun x hx => ?_
  unfold tab6 at hx
  simp only [List.mem_cons, List.not_mem_nil, or_false] at hx
  rcases hx with rfl | rfl
  · exact ⟨rfl, t6_0⟩
  · exact ⟨rfl, t6_1⟩
def a9_0 : List AV := [.agg [.int Go.IntKind.i64 (.ofNat 21), .int Go.IntKind.i64 (.ofNat 0), .int Go.IntKind.i64 (.ofNat 0), .int Go.IntKind.i64 (.ofNat 0), .int Go.IntKind.i64 (.ofNat 0), .str [109, 58, 97, 64, 98, 46, 99, 100], .str [], .str []]]
def r9_0 : AV := .bool true
def a9_1 : List AV := [.agg [.int Go.IntKind.i64 (.ofNat 21), .int Go.IntKind.i64 (.ofNat 0), .int Go.IntKind.i64 (.ofNat 0), .int Go.IntKind.i64 (.ofNat 0), .int Go.IntKind.i64 (.ofNat 0), .str [115, 58, 119], .str [], .str []]]
def r9_1 : AV := .bool true
def a9_2 : List AV := [.agg [.int Go.IntKind.i64 (.ofNat 1), .int Go.IntKind.i64 (.ofNat 1), .int Go.IntKind.i64 (.ofNat 0), .int Go.IntKind.i64 (.ofNat 0), .int Go.IntKind.i64 (.ofNat 0), .str [97, 64, 98, 46, 99, 100], .str [0, 1, 2, 3, 4, 5, 6, 7, 8, 9], .str [165, 146, 73, 118, 190, 195, 99, 162, 60, 190, 104, 110, 189, 225, 199, 6, 130, 58, 158, 109, 228, 230, 185, 62, 38, 245, 79, 179, 37, 174, 92, 31]]]
def r9_2 : AV := .bool true
def a9_3 : List AV := [.agg [.int Go.IntKind.i64 (.ofNat 10), .int Go.IntKind.i64 (.ofNat 1), .int Go.IntKind.i64 (.ofNat 1), .int Go.IntKind.i64 (.ofNat 0), .int Go.IntKind.i64 (.ofNat 600), .str [97, 64, 98, 46, 99, 100], .str [], .str [23, 209, 236, 204, 10, 11, 169, 36, 225, 128, 7, 98, 178, 9, 90, 147, 193, 240, 232, 18, 208, 138, 29, 153, 130, 229, 86, 186, 244, 217, 203, 202]]]
def r9_3 : AV := .bool true
def a9_4 : List AV := [.agg [.int Go.IntKind.i64 (.ofNat 14), .int Go.IntKind.i64 (.ofNat 0), .int Go.IntKind.i64 (.ofNat 0), .int Go.IntKind.i64 (.ofNat 0), .int Go.IntKind.i64 (.ofNat 0), .str [97, 64, 98, 46, 99, 100], .str [118, 101, 114, 105, 102, 121, 32, 98, 105, 102, 113, 121, 100, 105, 111, 98, 52, 105, 98, 99, 101, 113, 116], .str []]]
def r9_4 : AV := .bool true
def a9_5 : List AV := [.agg [.int Go.IntKind.i64 (.ofNat 15), .int Go.IntKind.i64 (.ofNat 0), .int Go.IntKind.i64 (.ofNat 0), .int Go.IntKind.i64 (.ofNat 0), .int Go.IntKind.i64 (.ofNat 1), .str [], .str [], .str []]]
def r9_5 : AV := .bool true
def a9_6 : List AV := [.agg [.int Go.IntKind.i64 (.ofNat 11), .int Go.IntKind.i64 (.ofNat 1), .int Go.IntKind.i64 (.ofNat 1), .int Go.IntKind.i64 (.ofNat 0), .int Go.IntKind.i64 (.ofNat 0), .str [97, 64, 98, 46, 99, 100], .str [], .str []]]
def r9_6 : AV := .bool true
def a9_7 : List AV := [.agg [.int Go.IntKind.i64 (.ofNat 2), .int Go.IntKind.i64 (.ofNat 1), .int Go.IntKind.i64 (.ofNat 0), .int Go.IntKind.i64 (.ofNat 0), .int Go.IntKind.i64 (.ofNat 0), .str [], .str [], .str []]]
def r9_7 : AV := .bool true
def tab9 : List (List AV × AV) := [(a9_0, r9_0), (a9_1, r9_1), (a9_2, r9_2), (a9_3, r9_3), (a9_4, r9_4), (a9_5, r9_5), (a9_6, r9_6), (a9_7, r9_7)]
theorem t9_0 : callF E1 (exec E1 20000) 9 a9_0 ⟨.lf, 0⟩ (isW r9_0) = true := by decide +kernel
theorem t9_1 : callF E1 (exec E1 20000) 9 a9_1 ⟨.lf, 0⟩ (isW r9_1) = true := by decide +kernel
theorem t9_2 : callF E1 (exec E1 20000) 9 a9_2 ⟨.lf, 0⟩ (isW r9_2) = true := by decide +kernel
theorem t9_3 : callF E1 (exec E1 20000) 9 a9_3 ⟨.lf, 0⟩ (isW r9_3) = true := by decide +kernel
theorem t9_4 : callF E1 (exec E1 20000) 9 a9_4 ⟨.lf, 0⟩ (isW r9_4) = true := by decide +kernel
theorem t9_5 : callF E1 (exec E1 20000) 9 a9_5 ⟨.lf, 0⟩ (isW r9_5) = true := by decide +kernel
theorem t9_6 : callF E1 (exec E1 20000) 9 a9_6 ⟨.lf, 0⟩ (isW r9_6) = true := by decide +kernel
theorem t9_7 : callF E1 (exec E1 20000) 9 a9_7 ⟨.lf, 0⟩ (isW r9_7) = true := by decide +kernel
theorem tab9_ok : MemoAt Tryz.prog gl F w0 9 (memoV tab9) := by
  refine memoW_ok (N := 20000) E1_ok fun x hx => ?_
  unfold tab9 at hx
  simp only [List.mem_cons, List.not_mem_nil, or_false] at hx
  rcases hx with rfl | rfl | rfl | rfl | rfl | rfl | rfl | rfl
  · exact ⟨rfl, t9_0⟩
  · exact ⟨rfl, t9_1⟩
  · exact ⟨rfl, t9_2⟩
  · exact ⟨rfl, t9_3⟩
  · exact ⟨rfl, t9_4⟩
  · exact ⟨rfl, t9_5⟩
  · exact ⟨rfl, t9_6⟩
  · exact ⟨rfl, t9_7⟩
def a337_0 : List AV := [.agg [.int Go.IntKind.i64 (.ofNat 0), .str []]]
def r337_0 : AV := .str [0, 0]
def tab337 : List (List AV × AV) := [(a337_0, r337_0)]
theorem t337_0 : callF E1 (exec E1 20000) 337 a337_0 ⟨.lf, 0⟩ (isW r337_0) = true := by decide +kernel
theorem tab337_ok : MemoAt Tryz.prog gl F w0 337 (memoV tab337) := by
  refine memoW_ok (N := 20000) E1_ok fun x hx => ?_
  unfold tab337 at hx
  simp only [List.mem_cons, List.not_mem_nil, or_false] at hx
  subst hx
  exact ⟨rfl, t337_0⟩
end Go.Proofs.YtjiaoppefinljaaGreatDoor.Ab
