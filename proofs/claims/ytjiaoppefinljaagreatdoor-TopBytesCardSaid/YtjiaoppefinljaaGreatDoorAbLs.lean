/- The memories of awake's run: what hangs on MaxLen, too. -/
import Derived.Test.YtjiaoppefinljaaGreatDoorAbIx
import Derived.Test.YtjiaoppefinljaaGreatDoorKi
import Derived.Test.YtjiaoppefinljaaGreatDoorAbTc
namespace Go.Proofs.YtjiaoppefinljaaGreatDoor.Ab
open Go
set_option maxRecDepth 1000000
noncomputable def list3 : List (FuncId × (List AV → St → Option AV)) := (456, memoV tab456) :: (162, memoV tab162) :: (77, memoV tab77) :: (27, memoV tab27) :: (388, memoV tab388) :: (5, memoV tab5) :: (6, memoV tab6) :: (9, memoV tab9) :: (337, memoV tab337) :: list2
noncomputable def list4 : List (FuncId × (List AV → St → Option AV)) := (295, memoIx) :: list3
def glA (g : Nat) : Option AV := match Nat.beq g 3 with | true => some (.rng .i64 none (some 1)) | false => none
section
variable {gl : Nat → Option AV} {F : Nat → Prop} {w0 : World}
theorem list3_ok : ∀ x ∈ list3, MemoAt Tryz.prog gl F w0 x.1 x.2 := by
  intro x hx
  unfold list3 at hx
  rcases List.mem_cons.1 hx with rfl | hx
  · exact tab456_ok
  rcases List.mem_cons.1 hx with rfl | hx
  · exact tab162_ok
  rcases List.mem_cons.1 hx with rfl | hx
  · exact tab77_ok
  rcases List.mem_cons.1 hx with rfl | hx
  · exact tab27_ok
  rcases List.mem_cons.1 hx with rfl | hx
  · exact tab388_ok
  rcases List.mem_cons.1 hx with rfl | hx
  · exact tab5_ok
  rcases List.mem_cons.1 hx with rfl | hx
  · exact tab6_ok
  rcases List.mem_cons.1 hx with rfl | hx
  · exact tab9_ok
  rcases List.mem_cons.1 hx with rfl | hx
  · exact tab337_ok
  exact list2_ok x hx
theorem list4_ok (hg : GlOk F w0 glB) : ∀ x ∈ list4, MemoAt Tryz.prog glB F w0 x.1 x.2 := by
  intro x hx
  unfold list4 at hx
  rcases List.mem_cons.1 hx with rfl | hx
  · exact memoIx_ok hg
  · exact list3_ok x hx
end
noncomputable def EA : Env := envOf glA list3
noncomputable def EB : Env := envOf glB list4
theorem EA_ok (F : Nat → Prop) (w0 : World) (_ : GlOk F w0 glA) : EnvOk Tryz.prog glA F w0 EA := envOf_ok list3_ok
theorem EB_ok (F : Nat → Prop) (w0 : World) (hg : GlOk F w0 glB) : EnvOk Tryz.prog glB F w0 EB := envOf_ok (list4_ok hg)
def a221_0 : List AV := [.str [97, 64, 98, 46, 99, 100]]
def r221_0 : AV := .int Go.IntKind.i64 (.ofNat 1)
def tab221 : List (List AV × AV) := [(a221_0, r221_0)]
theorem tA221_0 : callF EA (exec EA 20000) 221 a221_0 ⟨.lf, 0⟩ (isW r221_0) = true := by decide +kernel
theorem tB221_0 : callF EB (exec EB 20000) 221 a221_0 ⟨.lf, 0⟩ (isW r221_0) = true := by decide +kernel
def a348_0 : List AV := [.agg [.int Go.IntKind.i64 (.ofNat 1), .int Go.IntKind.i64 (.ofNat 0), .str [119], .str [97, 64, 98, 46, 99, 100], .str [], .str [], .str [112]]]
def r348_0 : AV := .tup [.agg [.int Go.IntKind.i64 (.ofNat 1), .int Go.IntKind.i64 (.ofNat 0), .str [119], .str [97, 64, 98, 46, 99, 100], .str [], .str [], .str [112]], .bool true]
def a348_1 : List AV := [.agg [.int Go.IntKind.i64 (.ofNat 2), .int Go.IntKind.i64 (.ofNat 0), .str [119], .str [97, 64, 98, 46, 99, 100], .str [], .str [98, 105, 102, 113, 121, 100, 105, 111, 98, 52, 105, 98, 99, 101, 113, 116], .str []]]
def r348_1 : AV := .tup [.agg [.int Go.IntKind.i64 (.ofNat 2), .int Go.IntKind.i64 (.ofNat 0), .str [119], .str [97, 64, 98, 46, 99, 100], .str [], .str [98, 105, 102, 113, 121, 100, 105, 111, 98, 52, 105, 98, 99, 101, 113, 116], .str []], .bool true]
def tab348 : List (List AV × AV) := [(a348_0, r348_0), (a348_1, r348_1)]
theorem tA348_0 : callF EA (exec EA 20000) 348 a348_0 ⟨.lf, 0⟩ (isW r348_0) = true := by decide +kernel
theorem tA348_1 : callF EA (exec EA 20000) 348 a348_1 ⟨.lf, 0⟩ (isW r348_1) = true := by decide +kernel
theorem tB348_0 : callF EB (exec EB 20000) 348 a348_0 ⟨.lf, 0⟩ (isW r348_0) = true := by decide +kernel
theorem tB348_1 : callF EB (exec EB 20000) 348 a348_1 ⟨.lf, 0⟩ (isW r348_1) = true := by decide +kernel
theorem tab221A_ok {F : Nat → Prop} {w0 : World} (hg : GlOk F w0 glA) : MemoAt Tryz.prog glA F w0 221 (memoV tab221) := by
  refine memoW_okg (N := 20000) EA_ok hg fun x hx => ?_
  unfold tab221 at hx
  simp only [List.mem_cons, List.not_mem_nil, or_false] at hx
  subst hx
  exact ⟨rfl, tA221_0⟩
theorem tab348A_ok {F : Nat → Prop} {w0 : World} (hg : GlOk F w0 glA) : MemoAt Tryz.prog glA F w0 348 (memoV tab348) := by
  refine memoW_okg (N := 20000) EA_ok hg fun x hx => ?_
  unfold tab348 at hx
  simp only [List.mem_cons, List.not_mem_nil, or_false] at hx
  rcases hx with rfl | rfl
  · exact ⟨rfl, tA348_0⟩
  · exact ⟨rfl, tA348_1⟩
noncomputable def listA : List (FuncId × (List AV → St → Option AV)) := (221, memoV tab221) :: (348, memoV tab348) :: list3
theorem listA_ok {F : Nat → Prop} {w0 : World} (hg : GlOk F w0 glA) : ∀ x ∈ listA, MemoAt Tryz.prog glA F w0 x.1 x.2 := by
  intro x hx
  unfold listA at hx
  rcases List.mem_cons.1 hx with rfl | hx
  · exact tab221A_ok hg
  rcases List.mem_cons.1 hx with rfl | hx
  · exact tab348A_ok hg
  exact list3_ok x hx
theorem tab221B_ok {F : Nat → Prop} {w0 : World} (hg : GlOk F w0 glB) : MemoAt Tryz.prog glB F w0 221 (memoV tab221) := by
  refine memoW_okg (N := 20000) EB_ok hg fun x hx => ?_
  unfold tab221 at hx
  simp only [List.mem_cons, List.not_mem_nil, or_false] at hx
  subst hx
  exact ⟨rfl, tB221_0⟩
theorem tab348B_ok {F : Nat → Prop} {w0 : World} (hg : GlOk F w0 glB) : MemoAt Tryz.prog glB F w0 348 (memoV tab348) := by
  refine memoW_okg (N := 20000) EB_ok hg fun x hx => ?_
  unfold tab348 at hx
  simp only [List.mem_cons, List.not_mem_nil, or_false] at hx
  rcases hx with rfl | rfl
  · exact ⟨rfl, tB348_0⟩
  · exact ⟨rfl, tB348_1⟩
noncomputable def listB : List (FuncId × (List AV → St → Option AV)) := (221, memoV tab221) :: (348, memoV tab348) :: list4
theorem listB_ok {F : Nat → Prop} {w0 : World} (hg : GlOk F w0 glB) : ∀ x ∈ listB, MemoAt Tryz.prog glB F w0 x.1 x.2 := by
  intro x hx
  unfold listB at hx
  rcases List.mem_cons.1 hx with rfl | hx
  · exact tab221B_ok hg
  rcases List.mem_cons.1 hx with rfl | hx
  · exact tab348B_ok hg
  exact list4_ok hg x hx
end Go.Proofs.YtjiaoppefinljaaGreatDoor.Ab
