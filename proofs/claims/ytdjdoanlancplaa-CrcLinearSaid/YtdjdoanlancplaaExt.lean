/- The contracts of the closure that takes half a byte, and of Extend. -/
import Derived.Test.YtdjdoanlancplaaWord
import Derived.RegionTactic
import Derived.ChangeAlike
namespace Go.Proofs.Ytdjdoanlancplaa
open Go.RowKit

/-- the table of half bytes lies in block g -/
def TabAt (w : World) (g : Nat) : Prop := ∀ i, i < 16 → w.cell? ⟨g, i, none⟩ = some (.int .u32 (wi (tab i)))

theorem idx_bd {r b : Int} {R B : W32} (hr : IsW r R) (hb : IsW b B) : IsW (bits .and .u32 (bits .xor .u32 r b) 15) ((R ^^^ B) &&& 15#32) := (hr.xor hb).and IsW.lit15
theorem idx_nat {n : Int} {X : W32} (h : IsW n (X &&& 15#32)) : 0 ≤ n ∧ n < 16 ∧ n.toNat = (X &&& 15#32).toNat := by
  have := and15_lt X
  unfold IsW at h
  omega
theorem half_val {r : Int} {R B : W32} (hr : IsW r R) : IsW (bits .xor .u32 (wi (tab ((R ^^^ B) &&& 15#32).toNat)) (r / 16)) (sN 4 (R ^^^ (B &&& 15#32))) := by
  have h := (wi_is (tab ((R ^^^ B) &&& 15#32).toNat)).xor (hr.shr 4 16 (by decide))
  rw [half_eq] at h
  exact h

set_option maxHeartbeats 1000000 in
theorem half_any (r b : Int) (R B : W32) (hr : Hid (IsW r R)) (hb : Hid (IsW b B)) (g c : Nat) (w : World) (ht : Hid (TabAt w g))
    (hc : w.cell? ⟨c, 0, none⟩ = some (.int .u32 r)) (hf : w.frozen? ⟨c, 0, none⟩ = false) :
    Calls Try.prog 25 #[.int .u32 b, .pointer (some ⟨g, 0, none⟩), .pointer (some ⟨c, 0, none⟩)] w fun e w' =>
      e = .returned (.tuple #[]) ∧ (w.setCell ⟨c, 0, none⟩ (.int .u32 (wi (sN 4 (R ^^^ (B &&& 15#32)))))).drew = w' := by
  have hi := idx_bd hr.out hb.out
  have hin := idx_nat hi
  have hv' := (half_val (B := B) hr.out).eq
  have hbd := hr.out.bd
  generalize hI : bits .and .u32 (bits .xor .u32 r b) 15 = I at hin
  have hcell : w.cell? ⟨g, I.toNat, none⟩ = some (.int .u32 (wi (tab ((R ^^^ B) &&& 15#32).toNat))) := by
    rw [hin.2.2]; exact ht.out _ (and15_lt _)
  generalize wi (tab ((R ^^^ B) &&& 15#32).toNat) = T at hcell hv'
  have hv := Lib.hid hv'
  clear hv'
  have h0 := hin.1
  have h1 := hin.2.1
  clear hi hin
  go_enter Try.func25, Try.ntmps25
  go_wp2
  go_region
  all_goals
    go_wp2
    go_end0
    refine ⟨rfl, ?_⟩
    rw [← hv.out]
set_option maxRecDepth 10000 in
theorem table_any (w : World) :
    Calls Try.prog 24 #[] w fun e w' => e = .returned (.agg #[.int .u32 0, .int .u32 498536548, .int .u32 997073096, .int .u32 651767980, .int .u32 1994146192, .int .u32 1802195444, .int .u32 1303535960, .int .u32 1342533948, .int .u32 3988292384, .int .u32 4027552580, .int .u32 3604390888, .int .u32 3412177804, .int .u32 2607071920, .int .u32 2262029012, .int .u32 2685067896, .int .u32 3183342108]) ∧ w.alloc (.cells #[.int .u32 0, .int .u32 498536548, .int .u32 997073096, .int .u32 651767980, .int .u32 1994146192, .int .u32 1802195444, .int .u32 1303535960, .int .u32 1342533948, .int .u32 3988292384, .int .u32 4027552580, .int .u32 3604390888, .int .u32 3412177804, .int .u32 2607071920, .int .u32 2262029012, .int .u32 2685067896, .int .u32 3183342108] 46) = w' := by
  go_enter Try.func24, Try.ntmps24
  go_wp2
  exact bodyPost_ret (v := .agg #[.int .u32 0, .int .u32 498536548, .int .u32 997073096, .int .u32 651767980, .int .u32 1994146192, .int .u32 1802195444, .int .u32 1303535960, .int .u32 1342533948, .int .u32 3988292384, .int .u32 4027552580, .int .u32 3604390888, .int .u32 3412177804, .int .u32 2607071920, .int .u32 2262029012, .int .u32 2685067896, .int .u32 3183342108]) (by simp [results, Try.results24, go_sem]) rfl ⟨rfl, rfl⟩

theorem tab_lit (i : Nat) (hi : i < 16) : (#[.int .u32 0, .int .u32 498536548, .int .u32 997073096, .int .u32 651767980, .int .u32 1994146192, .int .u32 1802195444, .int .u32 1303535960, .int .u32 1342533948, .int .u32 3988292384, .int .u32 4027552580, .int .u32 3604390888, .int .u32 3412177804, .int .u32 2607071920, .int .u32 2262029012, .int .u32 2685067896, .int .u32 3183342108] : Array Value)[i]? = some (.int .u32 (wi (tab i))) := by
  rcases (show i = 0 ∨ i = 1 ∨ i = 2 ∨ i = 3 ∨ i = 4 ∨ i = 5 ∨ i = 6 ∨ i = 7 ∨ i = 8 ∨ i = 9 ∨ i = 10 ∨ i = 11 ∨ i = 12 ∨ i = 13 ∨ i = 14 ∨ i = 15 from by omega) with rfl | rfl | rfl | rfl | rfl | rfl | rfl | rfl | rfl | rfl | rfl | rfl | rfl | rfl | rfl | rfl
  all_goals rfl
theorem tab_of_block {w : World} {g : Nat} {fr : Nat × Nat} (h : w.heap[g]? = some (.cells #[.int .u32 0, .int .u32 498536548, .int .u32 997073096, .int .u32 651767980, .int .u32 1994146192, .int .u32 1802195444, .int .u32 1303535960, .int .u32 1342533948, .int .u32 3988292384, .int .u32 4027552580, .int .u32 3604390888, .int .u32 3412177804, .int .u32 2607071920, .int .u32 2262029012, .int .u32 2685067896, .int .u32 3183342108] 46 fr)) : TabAt w g := by
  intro i hi
  rw [← tab_lit i hi]
  exact cell_of_row w g i _ 46 fr h

/-- the world ahead of Extend's loop -/
theorem ext_world (w : World) (C D : Array Value) (hD : ∀ (w : World) (g : Nat) (fr : Nat × Nat), w.heap[g]? = some (.cells D 46 fr) → TabAt w g) (r : Int) (W : World) (hW : W = (((w.alloc (.cells C 46)).alloc (.cells D 46)).alloc (.cells #[.int .u32 r] 24))) :
    TabAt W (w.heap.size + 1) ∧ W.cell? ⟨w.heap.size + 1 + 1, 0, none⟩ = some (.int .u32 r) ∧ W.frozen? ⟨w.heap.size + 1 + 1, 0, none⟩ = false ∧ Below w.heap.size w W ∧ w.heap.size + 1 + 1 < W.heap.size := by
  have hh : W.heap[w.heap.size + 1 + 1]? = some (.cells #[.int .u32 r] 24 (0, 0)) := by
    rw [hW]
    have e : w.heap.size + 1 + 1 = ((w.alloc (.cells C 46)).alloc (.cells D 46)).heap.size := by simp
    rw [e]
    exact heap_alloc_new _ _
  have hsz : w.heap.size + 1 + 1 < W.heap.size := by rw [hW]; simp
  refine ⟨?_, by rw [cell_of_row W _ 0 _ 24 (0, 0) hh]; rfl, by simp [World.frozen?, hh], ?_, hsz⟩
  all_goals subst hW
  · refine hD _ _ (0, 0) ?_
    rw [Below.heap_alloc ((w.alloc (.cells C 46)).alloc (.cells D 46)) (.cells #[.int .u32 r] 24) (w.heap.size + 1) (by simp)]
    have : w.heap.size + 1 = (w.alloc (.cells C 46)).heap.size := by simp
    rw [this]
    exact heap_alloc_new _ _
  · exact (((Below.refl _ _).alloc (Nat.le_refl _) _).alloc (by simp) _).alloc (by simp; omega) _

theorem TabAt.keep {w : World} {g c : Nat} (h : TabAt w g) (hne : g ≠ c) (v : Value) : TabAt (w.setCell ⟨c, 0, none⟩ v).drew g := by
  intro i hi
  rw [← h i hi]
  show (w.setCell ⟨c, 0, none⟩ v).cell? ⟨g, i, none⟩ = _
  exact World.cell?_setCell_other _ _ _ _ (fun e => hne (by injection e with e; exact e.symm))

theorem take_snoc (s : ByteArray) (k : Nat) (h : k < s.size) : s.data.toList.take (k + 1) = s.data.toList.take k ++ [s[k]] := by
  rw [List.take_succ_eq_append_getElem (by simpa using h)]; rfl
theorem ext_step (X : W32) (s : ByteArray) (k : Nat) (h : k < s.size) :
    sN 4 (sN 4 (proc X (s.data.toList.take k) ^^^ (ext s[k] &&& 15#32)) ^^^ ((ext s[k] >>> 4) &&& 15#32)) = proc X (s.data.toList.take (k + 1)) := by
  rw [take_snoc s k h, proc_append, proc_cons, proc_nil, ← halves_eq]
  rw [half_eq, half_eq]
theorem ext_end (X : W32) (s : ByteArray) {n : Int} (h : IsW n (proc (X ^^^ all1) s.data.toList)) : bits .xor .u32 n 4294967295 = wi (extend X s.data.toList) := (h.xor IsW.all).eq
end Go.Proofs.Ytdjdoanlancplaa
