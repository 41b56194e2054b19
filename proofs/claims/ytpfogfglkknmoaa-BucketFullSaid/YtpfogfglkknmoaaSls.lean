/- What is left and the wait, of any slice. -/
import Derived.Test.YtpfogfglkknmoaaRows2
namespace Go.Proofs.Ytpfogfglkknmoaa
open Go.RowKit
theorem Left_sl {T : Int} {r : List Bk} (hv : Valid T r) (hT : T ≤ 1000000000000) (hlen : r.length ≤ 100) (k : ByteArray) (now : Int) (hn : Time now) (v : Value) (w : World) (hs : Sl v r w) :
    Calls Try.prog 15 #[v, .string k, .int .i64 now] w fun e w' => e = .returned (.int .i64 (LeftP r k now)) ∧ Below w.heap.size w w' := by
  obtain ⟨A, c, rfl, -, -, -, hr⟩ := hs
  exact Left_any A c r hv.sorted (hv.fit hT) (by omega) k now hn w hr
theorem Wait_sl {T : Int} {r : List Bk} (hv : Valid T r) (hT : T ≤ 1000000000000) (hlen : r.length ≤ 100) (k : ByteArray) (now : Int) (hn : Time now) (v : Value) (w : World) (hs : Sl v r w) :
    Calls Try.prog 18 #[v, .string k, .int .i64 now] w fun e w' => e = .returned (.int .i64 (waitP r k now)) ∧ Below w.heap.size w w' := by
  obtain ⟨A, c, rfl, -, -, -, hr⟩ := hs
  exact Wait_any A c r hv.sorted (hv.fit hT) (by omega) k now hn w hr
theorem below_box2 {w w' : World} {o : Obj} (h : Below (w.alloc o).heap.size (w.alloc o) w') : Below w.heap.size w w' := ((Below.refl w.heap.size w).alloc (Nat.le_refl _) o).trans (h.mono (by simp))
theorem Src.cut {w : World} {A : Option Addr} {n : Nat} {f : Nat → Int × Int} (h : Src w A n f) (m : Nat) (hm : m ≤ n) : Src w A m f := fun i hi => h i (by omega)
end Go.Proofs.Ytpfogfglkknmoaa
