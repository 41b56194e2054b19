/- Check, of rows that may be. -/
import Derived.Test.YtpfogfglkknmoaaSls
namespace Go.Proofs.Ytpfogfglkknmoaa
open Go.RowKit
def lastKey (l : List Bk) (k : Nat) : ByteArray := if h : 0 < k ∧ k ≤ l.length then (l[k - 1]'(by omega)).key else ⟨#[]⟩
theorem lastKey_lt {T : Int} {l : List Bk} (hv : Valid T l) (k : Nat) (hk : k < l.length) : kl (lastKey l k) < kl (l[k]'hk).key := by
  unfold lastKey
  by_cases h : 0 < k
  · rw [dif_pos ⟨h, by omega⟩]
    exact sorted_lt hv.sorted (by omega) hk
  · rw [dif_neg (fun x => h x.1)]
    have := hv.nonempty _ (List.getElem_mem hk)
    show kl ⟨#[]⟩ < _
    cases hq : kl (l[k]'hk).key with
    | nil => exact absurd hq this
    | cons a t => exact List.nil_lt_cons a t
theorem lastKey_succ (l : List Bk) (k : Nat) (hk : k < l.length) : lastKey l (k + 1) = (l[k]'hk).key := by
  unfold lastKey
  rw [dif_pos ⟨by omega, by omega⟩]
  simp
theorem less_eq : ∀ (x y : List UInt8), Op.bytesLess x y = decide (x < y)
  | [], [] => by simp [Op.bytesLess]
  | _ :: _, [] => by simp [Op.bytesLess]
  | [], _ :: _ => by simp [Op.bytesLess]
  | a :: x, b :: y => by
    unfold Op.bytesLess
    rw [less_eq x y, Bool.eq_iff_iff]
    simp [List.cons_lt_cons_iff]
set_option maxHeartbeats 2000000 in
theorem Check_any {T : Int} (l : List Bk) (hv : Valid T l) (hT : T ≤ 1000000000000) (hlen : l.length ≤ 24) (v : Value) (w : World) (hs : Sl v l w) :
    Calls Try.prog 20 #[v] w fun e w' => e = .returned (.bool true) ∧ Below w.heap.size w w' := by
  obtain ⟨A, c, rfl, -, -, -, hr⟩ := hs
  have HR := Lib.hid hr
  have HV := Lib.hid hv
  clear hr hv
  go_enter Try.func20, Try.ntmps20
  go_wp2_with fail
  go_loopw [3, 5, 8] (fun v3 _ v8 wr => ∃ k : Nat, k ≤ l.length ∧ v8 = .int .i64 (k : Int) ∧ v3 = .string (lastKey l k) ∧ Below w.heap.size w wr)
    (fun _ _ v8 _ => l.length - (intOf v8).toNat)
  case atStart => exact ⟨0, by omega, rfl, rfl, Below.refl _ _⟩
  case round =>
    obtain ⟨k, hk, rfl, rfl, hb⟩ := hrel
    by_cases hlt : k < l.length
    · obtain ⟨g, o, rfl, hg, c0, c1, c2⟩ := (HR.out.below hb).at_ k hlt
      have hkz : (k : Int) < (l.length : Int) := by omega
      have hk0 : (0 : Int) ≤ (k : Int) := by omega
      have hb0 := HV.out.left0 _ (List.getElem_mem hlt)
      have hb1 := HV.out.at0 _ (List.getElem_mem hlt)
      have hkk := lastKey_lt HV.out k hlt
      have HSU := Lib.hid (lastKey_succ l k hlt)
      generalize l[k]'hlt = b at *
      generalize lastKey l k = last at *
      have z1 : decide (b.left < 0) = false := decide_eq_false (by omega)
      have z2 : decide (4 ≤ b.left) = false := decide_eq_false (by omega)
      have z3 : decide (b.at_ < 0) = false := decide_eq_false (by omega)
      have z4 : decide (1099511627776 < b.at_) = false := decide_eq_false (by omega)
      have e1 : b.key.toList = kl b.key := Lib.toList_data _
      have e2 : last.toList = kl last := Lib.toList_data _
      have z5 : Op.bytesLess b.key.toList last.toList = false := by
        rw [less_eq, e1, e2]
        exact decide_eq_false (lt_asymm' hkk)
      have z6 : (b.key.toList == last.toList) = false := by
        rw [e1, e2]
        simp only [beq_eq_false_iff_ne, ne_eq]
        intro e
        rw [e] at hkk
        exact lt_irrefl' _ hkk
      clear e1 e2 hkk hb0 hb1
      go_wp2_with fail
      go_roundw
      case rel => exact ⟨k + 1, by omega, by go_num, by rw [HSU.out], hb.alloc hb.size _⟩
      case measure => simp [intOf]; omega
    · obtain rfl : k = l.length := by omega
      have hll : ¬ (l.length : Int) < (l.length : Int) := by omega
      have h24 : (l.length : Int) ≤ 24 := by omega
      go_wp2_with fail
      go_ret
      exact ⟨rfl, hb⟩
end Go.Proofs.Ytpfogfglkknmoaa
