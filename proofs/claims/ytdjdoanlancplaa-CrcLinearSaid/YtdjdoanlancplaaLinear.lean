/- CrcLinear: the walk of the law. -/
import Derived.Test.YtdjdoanlancplaaSeals
import Derived.Test.YtdjdoanlancplaaRegion
import Derived.Deep.AppendLies
import Derived.Deep.RegionHeld3
import Derived.Laws.OwnMore
import Derived.Lib.BufferRead
namespace Go.Proofs.Ytdjdoanlancplaa
open Go.RowKit
namespace Linear

theorem info5 : (Try.prog.info? 5).map (fun i => (i.zero, i.size, i.bytes)) = some (some (.int .u8 0), 1, 1) := by kernel_rfl

theorem min4 (x y z : Int) (n : Nat) (h : (n : Int) = min (min (min x y) z) 300) (ts : Array TypeId) (t : TypeId) (w : World) : (Builtin.min_ ts t #[.int .i64 x, .int .i64 y, .int .i64 z, .int .i64 300]).run Try.prog w = .ok (.int .i64 (n : Int)) w := by
  have e : (.int .i64 (n : Int) : Value) = .int .i64 (if 300 < (if z < (if y < x then y else x) then z else (if y < x then y else x)) then 300 else (if z < (if y < x then y else x) then z else (if y < x then y else x))) := by
    congr 1
    rw [h]
    omega
  rw [e]
  simp [Builtin.min_, Builtin.min2]

/-- byte k of the three texts turned by one another -/
def tri (a b c : ByteArray) (k : Nat) : UInt8 := a.data.toList.getD k 0 ^^^ b.data.toList.getD k 0 ^^^ c.data.toList.getD k 0
def triL (a b c : ByteArray) (k : Nat) : List UInt8 := (List.range k).map (tri a b c)
def triV (a b c : ByteArray) (k : Nat) : List Value := (triL a b c k).map fun u => Value.int .u8 (u.toNat : Int)
theorem triL_length (a b c : ByteArray) (k : Nat) : (triL a b c k).length = k := by simp [triL]
theorem triV_succ (a b c : ByteArray) (k : Nat) : triV a b c (k + 1) = triV a b c k ++ [.int .u8 ((tri a b c k).toNat : Int)] := by
  unfold triV triL
  rw [List.range_succ, List.map_append, List.map_append]
  rfl
theorem tri_val (a b c : ByteArray) (k : Nat) (ha : k < a.size) (hb : k < b.size) (hc : k < c.size) :
    bits .xor .u8 (bits .xor .u8 (a[k].toNat : Int) (b[k].toNat : Int)) (c[k].toNat : Int) = ((tri a b c k).toNat : Int) := by
  have e : ∀ (s : ByteArray) (h : k < s.size), s.data.toList.getD k 0 = s[k] := by
    intro s h
    rw [List.getD_eq_getElem?_getD, List.getElem?_eq_getElem (by simpa using h)]
    rfl
  unfold tri
  rw [e a ha, e b hb, e c hc, u8_xor_nat _ _ a[k].toNat_lt b[k].toNat_lt, ← UInt8.toNat_xor, u8_xor_nat _ _ (a[k] ^^^ b[k]).toNat_lt c[k].toNat_lt, ← UInt8.toNat_xor]

theorem conv_tri {w : World} {base k : Nat} {v : Value} {a b c : ByteArray} (hown : w.ownsRow base 5 1 v k (triV a b c k)) (hnil : k = 0 → v = .slice none 0 0) (hsome : 0 < k → ∃ g cap, v = .slice (some ⟨g, 0, none⟩) k cap) :
    ∀ W, Below w.heap.size w W → (convert 23 9 v).run Try.prog W = .ok (.string ⟨(triL a b c k).toArray⟩) W := by
  intro W hW
  by_cases h0 : k = 0
  · subst h0
    rw [hnil rfl]
    exact Lib.run_convert_nil_bytes (P := Try.prog) W 23 9 5 0 Try.underlying23 Try.underlying5 Try.underlying9
  · obtain ⟨g, cap, rfl⟩ := hsome (by omega)
    have hlt := (hown.lt g rfl).2
    have h1 := run_convert_bytes_back (P := Try.prog) W 23 9 5 ⟨g, 0, none⟩ cap (triL a b c k) Try.underlying23 Try.underlying5 Try.underlying9 (by
      intro j hj
      have e : (⟨g, 0, none⟩ : Addr).add j = ⟨g, j, none⟩ := by
        unfold Addr.add
        by_cases h : j = 0 <;> simp [h]
      rw [e, hW.cell (by exact hlt), hown.cellAt j (by rw [triL_length] at hj; omega)]
      unfold triV
      rw [List.getElem?_map, List.getElem?_eq_getElem hj]
      rfl)
    rw [triL_length] at h1
    exact h1
theorem tri_list (a b c : ByteArray) (n : Nat) (ha : n ≤ a.size) (hb : n ≤ b.size) (hc : n ≤ c.size) :
    triL a b c n = xor3 (a.data.toList.take n) (b.data.toList.take n) (c.data.toList.take n) := by
  have hx : ∀ (x y z : List UInt8), x.length = y.length → x.length = z.length → xor3 x y z = (List.range x.length).map fun k => x.getD k 0 ^^^ y.getD k 0 ^^^ z.getD k 0 := by
    intro x
    induction x with
    | nil => intro y z h1 h2; cases y <;> cases z <;> simp [xor3] at h1 h2 ⊢
    | cons p x ih =>
      intro y z h1 h2
      match y, z, h1, h2 with
      | q :: y, r :: z, h1, h2 =>
        simp only [xor3, List.length_cons, List.range_succ_eq_map, List.map_cons, List.map_map]
        rw [ih y z (by simpa using h1) (by simpa using h2)]
        rfl
  have hl : ∀ s : ByteArray, n ≤ s.size → (s.data.toList.take n).length = n := by
    intro s h; rw [List.length_take, size_list]; omega
  rw [hx _ _ _ (by rw [hl a ha, hl b hb]) (by rw [hl a ha, hl c hc]), hl a ha]
  unfold triL
  apply List.map_congr_left
  intro k hk
  have hkn := List.mem_range.1 hk
  have hg : ∀ s : ByteArray, (s.data.toList.take n).getD k 0 = s.data.toList.getD k 0 := by
    intro s; rw [List.getD_eq_getElem?_getD, List.getD_eq_getElem?_getD, List.getElem?_take, if_pos hkn]
  unfold tri
  rw [hg a, hg b, hg c]
theorem tri_sum (a b c : ByteArray) (n : Nat) (ha : n ≤ a.size) (hb : n ≤ b.size) (hc : n ≤ c.size) :
    wi (crc (⟨(triL a b c n).toArray⟩ : ByteArray).data.toList) = bits .xor .u32 (bits .xor .u32 (wi (crc (a.extract 0 n).data.toList)) (wi (crc (b.extract 0 n).data.toList))) (wi (crc (c.extract 0 n).data.toList)) := by
  have h := ((wi_is (crc (a.extract 0 n).data.toList)).xor (wi_is (crc (b.extract 0 n).data.toList))).xor (wi_is (crc (c.extract 0 n).data.toList))
  rw [h.eq]
  have hl : ∀ s : ByteArray, n ≤ s.size → (s.data.toList.take n).length = n := by
    intro s h; rw [List.length_take, size_list]; omega
  rw [extract_list, extract_list, extract_list, ← crc_xor3 _ _ _ (by rw [hl a ha, hl b hb]) (by rw [hl a ha, hl c hc]), ← tri_list a b c n ha hb hc]

/-- a slice of one text, somewhere -/
def One (s : ByteArray) (v : Value) (w : World) : Prop := ∃ g, v = .slice (some ⟨g, 0, none⟩) 1 1 ∧ w.cell? ⟨g, 0, none⟩ = some (.string s) ∧ g < w.heap.size
/-- what each operation of the last statement leaves -/
def lin (a b c D : ByteArray) (d : Value) (n : Nat) : Nat → Value → World → Prop
  | 0, v, _ => v = .bool true
  | 1, v, _ => v = .bool true
  | 2, v, _ => v = d
  | 3, v, _ => v = .string D
  | 4, v, w => One D v w
  | 5, v, _ => v = .int .u32 (wi (crc D.data.toList))
  | 6, v, _ => v = .string a
  | 7, v, _ => v = .int .i64 (n : Int)
  | 8, v, _ => v = .string (a.extract 0 n)
  | 9, v, w => One (a.extract 0 n) v w
  | 10, v, _ => v = .int .u32 (wi (crc (a.extract 0 n).data.toList))
  | 11, v, _ => v = .string b
  | 12, v, _ => v = .int .i64 (n : Int)
  | 13, v, _ => v = .string (b.extract 0 n)
  | 14, v, w => One (b.extract 0 n) v w
  | 15, v, _ => v = .int .u32 (wi (crc (b.extract 0 n).data.toList))
  | 16, v, _ => v = .int .u32 (bits .xor .u32 (wi (crc (a.extract 0 n).data.toList)) (wi (crc (b.extract 0 n).data.toList)))
  | 17, v, _ => v = .string c
  | 18, v, _ => v = .int .i64 (n : Int)
  | 19, v, _ => v = .string (c.extract 0 n)
  | 20, v, w => One (c.extract 0 n) v w
  | 21, v, _ => v = .int .u32 (wi (crc (c.extract 0 n).data.toList))
  | 22, v, _ => v = .int .u32 (bits .xor .u32 (bits .xor .u32 (wi (crc (a.extract 0 n).data.toList)) (wi (crc (b.extract 0 n).data.toList))) (wi (crc (c.extract 0 n).data.toList)))
  | _, v, _ => v = .bool true
theorem One.later {s : ByteArray} {v : Value} {w w' : World} (h : One s v w) (hb : Below w.heap.size w w') : One s v w' := by
  obtain ⟨g, e, hc, hg⟩ := h
  exact ⟨g, e, (hb.cell (by exact hg)).trans hc, Nat.lt_of_lt_of_le hg hb.size⟩
theorem lin_stable {a b c D : ByteArray} {d : Value} {n : Nat} : ∀ (w w' : World) (j : Nat) (v : Value), Below w.heap.size w w' → lin a b c D d n j v w → lin a b c D d n j v w' := by
  intro w w' j v hb h
  unfold lin at h ⊢
  split at h <;> first | exact h | exact h.later hb

set_option maxHeartbeats 4000000 in
theorem walk (a : ByteArray) (_ : a.size ≤ maxLen) (b : ByteArray) (_ : b.size ≤ maxLen) (c : ByteArray) (_ : c.size ≤ maxLen) (w : World) :
    Calls Try.prog 3 #[.string a, .string b, .string c] w fun e w' => e = .returned (.bool true) ∧ Below w.heap.size w w' := by
  obtain ⟨n, hn⟩ : ∃ n : Nat, (n : Int) = min (min (min (a.size : Int) b.size) c.size) 300 := ⟨(min (min (min (a.size : Int) b.size) c.size) 300).toNat, by omega⟩
  have hmin := min4 (a.size : Int) (b.size : Int) (c.size : Int) n hn
  have hna : n ≤ a.size := by omega
  have hnb : n ≤ b.size := by omega
  have hnc : n ≤ c.size := by omega
  have hn3 : n ≤ 300 := by omega
  clear hn
  obtain ⟨i0, hi, hz0, hz1, hz2⟩ := info_parts info5
  go_enter Try.func3, Try.ntmps3
  go_wp2_with fail
  refine (awake_any _).mono ?_
  rintro e w1 ⟨rfl, hb1⟩
  go_wp2_with fail
  have hsz := hb1.size
  clear hmin
  go_loopw [9, 10] (fun vd vi wr => ∃ k : Nat, k ≤ n ∧ vi = .int .i64 (k : Int) ∧ wr.ownsRow w.heap.size 5 1 vd k (triV a b c k) ∧ (k = 0 → vd = .slice none 0 0) ∧ (0 < k → ∃ g cap, vd = .slice (some ⟨g, 0, none⟩) k cap) ∧ Below w.heap.size w wr)
    (fun _ vi _ => n - (intOf vi).toNat)
  case atStart => exact ⟨0, by omega, rfl, World.ownsRow_nil _ _ _ _, fun _ => rfl, fun h => absurd h (by omega), hb1⟩
  case round =>
    obtain ⟨k, hk, rfl, hown, hnil, hsome, hb⟩ := hrel
    clear hb1
    by_cases hlt : k < n
    · have hv := tri_val a b c k (by omega) (by omega) (by omega)
      have b0 : (0 : Int) ≤ (k : Int) := by omega
      have b1 : (k : Int) < (a.size : Int) := by omega
      have b2 : (k : Int) < (b.size : Int) := by omega
      have b3 : (k : Int) < (c.size : Int) := by omega
      have hss := hb.size
      generalize hy : (tri a b c k).toNat = y at hv
      have HYV := Lib.hid hy
      clear hy
      go_wp2_with fail
      go_region_held3 (fun _ => True) (trivial) ((refine step_append_lies _ (by rfl) _ _ _ (by rfl) w.heap.size 5 i0 _ 1 1 Try.underlying23 hi hz0 hz1 hz2 rfl (by omega) _ k (triV a b c k) (by rfl) ((hown.alloc _).drew) ⟨wr.heap.size, 0, none⟩ 1 1 [.int .u8 (y : Int)] (by rfl) (by rfl) (World.news_of_block (cs := #[.int .u8 (y : Int)]) (t := 5) (fr := (0, 0)) (heap_alloc_new wr _)) (by simp [Value.oneCell']) (by omega) (by unfold maxLen; omega) (by omega) (by simp; omega) (wr.heap.size + 1) (by simp) ?_; intro gg cap w2 hown2 hgrow hat hlt2))
      all_goals
        have hbn := ((hb.alloc hss (.cells #[.int .u8 (y : Int)] 5)).drew).grown hgrow (by simp; omega) (fun j hj => (hown.lt j hj).1)
        have hownN : Hid (w2.ownsRow w.heap.size 5 1 (.slice (some ⟨gg, 0, none⟩) (k + 1) cap) (k + 1) (triV a b c (k + 1))) := by
          rw [triV_succ, HYV.out]; exact hown2
        clear hown2 hgrow hat hlt2 hown hnil hsome hb hv
        try go_wp2_with fail
        go_roundw
        case rel => exact ⟨k + 1, by omega, by go_num, hownN.out, fun h => absurd h (by omega), fun _ => ⟨_, _, rfl⟩, hbn⟩
        case measure => simp [intOf]; omega
    · obtain rfl : k = n := by omega
      have hcv := conv_tri hown hnil hsome
      have htri := tri_sum a b c k hna hnb hnc
      have hds : (⟨(triL a b c k).toArray⟩ : ByteArray).size ≤ 1000000 := by
        show (triL a b c k).toArray.size ≤ 1000000
        rw [List.size_toArray, triL_length]; omega
      generalize (⟨(triL a b c k).toArray⟩ : ByteArray) = D at hcv htri hds
      go_wp2_with fail
      refine Facts.wp_region_facts (by kernel_rfl) (lin a b c D u9 k) (fun w w' => Below w.heap.size w w') (fun w' => Below w.heap.size w w' ∧ Below wr.heap.size wr w') (by kernel_rfl) (by kernel_rfl) (by kernel_rfl) lin_stable ⟨hb.drew, (Below.refl _ _).drew⟩ ?_ ?_
      · refine ⟨?_, ?_, ?_, ?_, ?_, ?_, ?_, ?_, ?_, ?_, ?_, ?_, ?_, ?_, ?_, ?_, ?_, ?_, ?_, ?_, ?_, ?_, ?_, ?_, ?_, ?_, trivial⟩
        · rintro vs x W ⟨hR1, hR2⟩ hD hB
          have s7 := hB.slot 7 (v := .bool true) (by kernel_rfl) rfl
          refine Facts.step_value (v := .bool true) rfl (Facts.wanted_none rfl) ?_ ⟨hR1, hR2⟩ (Below.refl _ _) rfl
          simp [execOp, s7, go_sem]
        · rintro vs x W ⟨hR1, hR2⟩ hD hB
          obtain ⟨f0, s38⟩ := hD.slot 0 38 (by kernel_rfl) (by kernel_rfl)
          rw [(f0 : vs 0 = .bool true)] at s38
          refine Facts.step_value (v := .bool true) rfl (Facts.wanted_none rfl) ?_ ⟨hR1, hR2⟩ (Below.refl _ _) rfl
          simp [execOp, s38, go_sem]
        · rintro vs x W ⟨hR1, hR2⟩ hD hB
          have s9 := hB.slot 9 (v := u9) (by kernel_rfl) rfl
          obtain ⟨fg, sg⟩ := hD.slot 1 39 (by kernel_rfl) (by kernel_rfl)
          rw [(fg : vs 1 = .bool true)] at sg
          refine Facts.step_value (v := u9) rfl (Facts.wanted_some (t := 39) rfl (by kernel_rfl) sg) ?_ ⟨hR1, hR2⟩ (Below.refl _ _) rfl
          simp [execOp, s9, go_sem]
        · rintro vs x W ⟨hR1, hR2⟩ hD hB
          obtain ⟨f2, s40⟩ := hD.slot 2 40 (by kernel_rfl) (by kernel_rfl)
          rw [(f2 : vs 2 = u9)] at s40
          obtain ⟨fg, sg⟩ := hD.slot 1 39 (by kernel_rfl) (by kernel_rfl)
          rw [(fg : vs 1 = .bool true)] at sg
          refine Facts.step_value (v := .string D) rfl (Facts.wanted_some (t := 39) rfl (by kernel_rfl) sg) ?_ ⟨hR1, hR2⟩ (Below.refl _ _) rfl
          have hc := hcv W hR2
          simp [execOp, s40, go_sem, hc]
        · rintro vs x W ⟨hR1, hR2⟩ hD hB
          obtain ⟨f3, s41⟩ := hD.slot 3 41 (by kernel_rfl) (by kernel_rfl)
          rw [(f3 : vs 3 = .string D)] at s41
          obtain ⟨fg, sg⟩ := hD.slot 1 39 (by kernel_rfl) (by kernel_rfl)
          rw [(fg : vs 1 = .bool true)] at sg
          refine Facts.step_world (v := .slice (some ⟨W.heap.size, 0, none⟩) 1 1) (w' := W.alloc (.cells #[.string D] 9)) rfl (Facts.wanted_some (t := 39) rfl (by kernel_rfl) sg) ?_ ⟨hR1.alloc hR1.size _, hR2.alloc hR2.size _⟩ ((Below.refl _ _).alloc (Nat.le_refl _) _) ⟨W.heap.size, rfl, by simp, by simp⟩
          simp [execOp, s41, go_sem]
        · rintro vs x W ⟨hR1, hR2⟩ hD hB
          obtain ⟨⟨g, f4, hcell, hg⟩, s42⟩ := hD.slot 4 42 (by kernel_rfl) (by kernel_rfl)
          rw [f4] at s42
          obtain ⟨fg, sg⟩ := hD.slot 1 39 (by kernel_rfl) (by kernel_rfl)
          rw [(fg : vs 1 = .bool true)] at sg
          refine Facts.step_call (f := 10) (args := #[.slice (some ⟨g, 0, none⟩) 1 1]) rfl (Facts.wanted_some (t := 39) rfl (by kernel_rfl) sg) ?_ ((sum_at D g W hds hcell hg).mono ?_)
          · simp [s42, go_sem]
          · rintro e W2 ⟨rfl, hb2⟩
            exact ⟨_, rfl, ⟨hR1.trans (hb2.mono hR1.size), hR2.trans (hb2.mono hR2.size)⟩, hb2, rfl⟩
        · rintro vs x W ⟨hR1, hR2⟩ hD hB
          have s0 := hB.slot 0 (v := .string a) (by kernel_rfl) rfl
          obtain ⟨fg, sg⟩ := hD.slot 1 39 (by kernel_rfl) (by kernel_rfl)
          rw [(fg : vs 1 = .bool true)] at sg
          refine Facts.step_value (v := .string a) rfl (Facts.wanted_some (t := 39) rfl (by kernel_rfl) sg) ?_ ⟨hR1, hR2⟩ (Below.refl _ _) rfl
          simp [execOp, s0, go_sem]
        · rintro vs x W ⟨hR1, hR2⟩ hD hB
          have s8 := hB.slot 8 (v := .int .i64 (k : Int)) (by kernel_rfl) rfl
          obtain ⟨fg, sg⟩ := hD.slot 1 39 (by kernel_rfl) (by kernel_rfl)
          rw [(fg : vs 1 = .bool true)] at sg
          refine Facts.step_value (v := .int .i64 (k : Int)) rfl (Facts.wanted_some (t := 39) rfl (by kernel_rfl) sg) ?_ ⟨hR1, hR2⟩ (Below.refl _ _) rfl
          simp [execOp, s8, go_sem]
        · rintro vs x W ⟨hR1, hR2⟩ hD hB
          obtain ⟨f6, s44⟩ := hD.slot 6 44 (by kernel_rfl) (by kernel_rfl)
          rw [(f6 : vs 6 = .string a)] at s44
          obtain ⟨f7, s45⟩ := hD.slot 7 45 (by kernel_rfl) (by kernel_rfl)
          rw [(f7 : vs 7 = .int .i64 (k : Int))] at s45
          obtain ⟨fg, sg⟩ := hD.slot 1 39 (by kernel_rfl) (by kernel_rfl)
          rw [(fg : vs 1 = .bool true)] at sg
          refine Facts.step_value (v := .string (a.extract 0 k)) rfl (Facts.wanted_some (t := 39) rfl (by kernel_rfl) sg) ?_ ⟨hR1, hR2⟩ (Below.refl _ _) rfl
          simp [execOp, s44, s45, go_sem, hna]
        · rintro vs x W ⟨hR1, hR2⟩ hD hB
          obtain ⟨f8, s46⟩ := hD.slot 8 46 (by kernel_rfl) (by kernel_rfl)
          rw [(f8 : vs 8 = .string (a.extract 0 k))] at s46
          obtain ⟨fg, sg⟩ := hD.slot 1 39 (by kernel_rfl) (by kernel_rfl)
          rw [(fg : vs 1 = .bool true)] at sg
          refine Facts.step_world (v := .slice (some ⟨W.heap.size, 0, none⟩) 1 1) (w' := W.alloc (.cells #[.string (a.extract 0 k)] 9)) rfl (Facts.wanted_some (t := 39) rfl (by kernel_rfl) sg) ?_ ⟨hR1.alloc hR1.size _, hR2.alloc hR2.size _⟩ ((Below.refl _ _).alloc (Nat.le_refl _) _) ⟨W.heap.size, rfl, by simp, by simp⟩
          simp [execOp, s46, go_sem]
        · rintro vs x W ⟨hR1, hR2⟩ hD hB
          obtain ⟨⟨g, f9, hcell, hg⟩, s47⟩ := hD.slot 9 47 (by kernel_rfl) (by kernel_rfl)
          rw [f9] at s47
          obtain ⟨fg, sg⟩ := hD.slot 1 39 (by kernel_rfl) (by kernel_rfl)
          rw [(fg : vs 1 = .bool true)] at sg
          refine Facts.step_call (f := 10) (args := #[.slice (some ⟨g, 0, none⟩) 1 1]) rfl (Facts.wanted_some (t := 39) rfl (by kernel_rfl) sg) ?_ ((sum_at (a.extract 0 k) g W (by rw [ByteArray.size_extract]; omega) hcell hg).mono ?_)
          · simp [s47, go_sem]
          · rintro e W2 ⟨rfl, hb2⟩
            exact ⟨_, rfl, ⟨hR1.trans (hb2.mono hR1.size), hR2.trans (hb2.mono hR2.size)⟩, hb2, rfl⟩
        · rintro vs x W ⟨hR1, hR2⟩ hD hB
          have s1 := hB.slot 1 (v := .string b) (by kernel_rfl) rfl
          obtain ⟨fg, sg⟩ := hD.slot 1 39 (by kernel_rfl) (by kernel_rfl)
          rw [(fg : vs 1 = .bool true)] at sg
          refine Facts.step_value (v := .string b) rfl (Facts.wanted_some (t := 39) rfl (by kernel_rfl) sg) ?_ ⟨hR1, hR2⟩ (Below.refl _ _) rfl
          simp [execOp, s1, go_sem]
        · rintro vs x W ⟨hR1, hR2⟩ hD hB
          have s8 := hB.slot 8 (v := .int .i64 (k : Int)) (by kernel_rfl) rfl
          obtain ⟨fg, sg⟩ := hD.slot 1 39 (by kernel_rfl) (by kernel_rfl)
          rw [(fg : vs 1 = .bool true)] at sg
          refine Facts.step_value (v := .int .i64 (k : Int)) rfl (Facts.wanted_some (t := 39) rfl (by kernel_rfl) sg) ?_ ⟨hR1, hR2⟩ (Below.refl _ _) rfl
          simp [execOp, s8, go_sem]
        · rintro vs x W ⟨hR1, hR2⟩ hD hB
          obtain ⟨f11, s49⟩ := hD.slot 11 49 (by kernel_rfl) (by kernel_rfl)
          rw [(f11 : vs 11 = .string b)] at s49
          obtain ⟨f12, s50⟩ := hD.slot 12 50 (by kernel_rfl) (by kernel_rfl)
          rw [(f12 : vs 12 = .int .i64 (k : Int))] at s50
          obtain ⟨fg, sg⟩ := hD.slot 1 39 (by kernel_rfl) (by kernel_rfl)
          rw [(fg : vs 1 = .bool true)] at sg
          refine Facts.step_value (v := .string (b.extract 0 k)) rfl (Facts.wanted_some (t := 39) rfl (by kernel_rfl) sg) ?_ ⟨hR1, hR2⟩ (Below.refl _ _) rfl
          simp [execOp, s49, s50, go_sem, hnb]
        · rintro vs x W ⟨hR1, hR2⟩ hD hB
          obtain ⟨f13, s51⟩ := hD.slot 13 51 (by kernel_rfl) (by kernel_rfl)
          rw [(f13 : vs 13 = .string (b.extract 0 k))] at s51
          obtain ⟨fg, sg⟩ := hD.slot 1 39 (by kernel_rfl) (by kernel_rfl)
          rw [(fg : vs 1 = .bool true)] at sg
          refine Facts.step_world (v := .slice (some ⟨W.heap.size, 0, none⟩) 1 1) (w' := W.alloc (.cells #[.string (b.extract 0 k)] 9)) rfl (Facts.wanted_some (t := 39) rfl (by kernel_rfl) sg) ?_ ⟨hR1.alloc hR1.size _, hR2.alloc hR2.size _⟩ ((Below.refl _ _).alloc (Nat.le_refl _) _) ⟨W.heap.size, rfl, by simp, by simp⟩
          simp [execOp, s51, go_sem]
        · rintro vs x W ⟨hR1, hR2⟩ hD hB
          obtain ⟨⟨g, f14, hcell, hg⟩, s52⟩ := hD.slot 14 52 (by kernel_rfl) (by kernel_rfl)
          rw [f14] at s52
          obtain ⟨fg, sg⟩ := hD.slot 1 39 (by kernel_rfl) (by kernel_rfl)
          rw [(fg : vs 1 = .bool true)] at sg
          refine Facts.step_call (f := 10) (args := #[.slice (some ⟨g, 0, none⟩) 1 1]) rfl (Facts.wanted_some (t := 39) rfl (by kernel_rfl) sg) ?_ ((sum_at (b.extract 0 k) g W (by rw [ByteArray.size_extract]; omega) hcell hg).mono ?_)
          · simp [s52, go_sem]
          · rintro e W2 ⟨rfl, hb2⟩
            exact ⟨_, rfl, ⟨hR1.trans (hb2.mono hR1.size), hR2.trans (hb2.mono hR2.size)⟩, hb2, rfl⟩
        · rintro vs x W ⟨hR1, hR2⟩ hD hB
          obtain ⟨f10, s48⟩ := hD.slot 10 48 (by kernel_rfl) (by kernel_rfl)
          rw [(f10 : vs 10 = .int .u32 (wi (crc (a.extract 0 k).data.toList)))] at s48
          obtain ⟨f15, s53⟩ := hD.slot 15 53 (by kernel_rfl) (by kernel_rfl)
          rw [(f15 : vs 15 = .int .u32 (wi (crc (b.extract 0 k).data.toList)))] at s53
          obtain ⟨fg, sg⟩ := hD.slot 1 39 (by kernel_rfl) (by kernel_rfl)
          rw [(fg : vs 1 = .bool true)] at sg
          refine Facts.step_value (v := .int .u32 (bits .xor .u32 (wi (crc (a.extract 0 k).data.toList)) (wi (crc (b.extract 0 k).data.toList)))) rfl (Facts.wanted_some (t := 39) rfl (by kernel_rfl) sg) ?_ ⟨hR1, hR2⟩ (Below.refl _ _) rfl
          simp [execOp, s48, s53, go_sem]
        · rintro vs x W ⟨hR1, hR2⟩ hD hB
          have s2 := hB.slot 2 (v := .string c) (by kernel_rfl) rfl
          obtain ⟨fg, sg⟩ := hD.slot 1 39 (by kernel_rfl) (by kernel_rfl)
          rw [(fg : vs 1 = .bool true)] at sg
          refine Facts.step_value (v := .string c) rfl (Facts.wanted_some (t := 39) rfl (by kernel_rfl) sg) ?_ ⟨hR1, hR2⟩ (Below.refl _ _) rfl
          simp [execOp, s2, go_sem]
        · rintro vs x W ⟨hR1, hR2⟩ hD hB
          have s8 := hB.slot 8 (v := .int .i64 (k : Int)) (by kernel_rfl) rfl
          obtain ⟨fg, sg⟩ := hD.slot 1 39 (by kernel_rfl) (by kernel_rfl)
          rw [(fg : vs 1 = .bool true)] at sg
          refine Facts.step_value (v := .int .i64 (k : Int)) rfl (Facts.wanted_some (t := 39) rfl (by kernel_rfl) sg) ?_ ⟨hR1, hR2⟩ (Below.refl _ _) rfl
          simp [execOp, s8, go_sem]
        · rintro vs x W ⟨hR1, hR2⟩ hD hB
          obtain ⟨f17, s55⟩ := hD.slot 17 55 (by kernel_rfl) (by kernel_rfl)
          rw [(f17 : vs 17 = .string c)] at s55
          obtain ⟨f18, s56⟩ := hD.slot 18 56 (by kernel_rfl) (by kernel_rfl)
          rw [(f18 : vs 18 = .int .i64 (k : Int))] at s56
          obtain ⟨fg, sg⟩ := hD.slot 1 39 (by kernel_rfl) (by kernel_rfl)
          rw [(fg : vs 1 = .bool true)] at sg
          refine Facts.step_value (v := .string (c.extract 0 k)) rfl (Facts.wanted_some (t := 39) rfl (by kernel_rfl) sg) ?_ ⟨hR1, hR2⟩ (Below.refl _ _) rfl
          simp [execOp, s55, s56, go_sem, hnc]
        · rintro vs x W ⟨hR1, hR2⟩ hD hB
          obtain ⟨f19, s57⟩ := hD.slot 19 57 (by kernel_rfl) (by kernel_rfl)
          rw [(f19 : vs 19 = .string (c.extract 0 k))] at s57
          obtain ⟨fg, sg⟩ := hD.slot 1 39 (by kernel_rfl) (by kernel_rfl)
          rw [(fg : vs 1 = .bool true)] at sg
          refine Facts.step_world (v := .slice (some ⟨W.heap.size, 0, none⟩) 1 1) (w' := W.alloc (.cells #[.string (c.extract 0 k)] 9)) rfl (Facts.wanted_some (t := 39) rfl (by kernel_rfl) sg) ?_ ⟨hR1.alloc hR1.size _, hR2.alloc hR2.size _⟩ ((Below.refl _ _).alloc (Nat.le_refl _) _) ⟨W.heap.size, rfl, by simp, by simp⟩
          simp [execOp, s57, go_sem]
        · rintro vs x W ⟨hR1, hR2⟩ hD hB
          obtain ⟨⟨g, f20, hcell, hg⟩, s58⟩ := hD.slot 20 58 (by kernel_rfl) (by kernel_rfl)
          rw [f20] at s58
          obtain ⟨fg, sg⟩ := hD.slot 1 39 (by kernel_rfl) (by kernel_rfl)
          rw [(fg : vs 1 = .bool true)] at sg
          refine Facts.step_call (f := 10) (args := #[.slice (some ⟨g, 0, none⟩) 1 1]) rfl (Facts.wanted_some (t := 39) rfl (by kernel_rfl) sg) ?_ ((sum_at (c.extract 0 k) g W (by rw [ByteArray.size_extract]; omega) hcell hg).mono ?_)
          · simp [s58, go_sem]
          · rintro e W2 ⟨rfl, hb2⟩
            exact ⟨_, rfl, ⟨hR1.trans (hb2.mono hR1.size), hR2.trans (hb2.mono hR2.size)⟩, hb2, rfl⟩
        · rintro vs x W ⟨hR1, hR2⟩ hD hB
          obtain ⟨f16, s54⟩ := hD.slot 16 54 (by kernel_rfl) (by kernel_rfl)
          rw [(f16 : vs 16 = .int .u32 (bits .xor .u32 (wi (crc (a.extract 0 k).data.toList)) (wi (crc (b.extract 0 k).data.toList))))] at s54
          obtain ⟨f21, s59⟩ := hD.slot 21 59 (by kernel_rfl) (by kernel_rfl)
          rw [(f21 : vs 21 = .int .u32 (wi (crc (c.extract 0 k).data.toList)))] at s59
          obtain ⟨fg, sg⟩ := hD.slot 1 39 (by kernel_rfl) (by kernel_rfl)
          rw [(fg : vs 1 = .bool true)] at sg
          refine Facts.step_value (v := .int .u32 (bits .xor .u32 (bits .xor .u32 (wi (crc (a.extract 0 k).data.toList)) (wi (crc (b.extract 0 k).data.toList))) (wi (crc (c.extract 0 k).data.toList)))) rfl (Facts.wanted_some (t := 39) rfl (by kernel_rfl) sg) ?_ ⟨hR1, hR2⟩ (Below.refl _ _) rfl
          simp [execOp, s54, s59, go_sem]
        · rintro vs x W ⟨hR1, hR2⟩ hD hB
          obtain ⟨f5, s43⟩ := hD.slot 5 43 (by kernel_rfl) (by kernel_rfl)
          rw [(f5 : vs 5 = .int .u32 (wi (crc D.data.toList)))] at s43
          obtain ⟨f22, s60⟩ := hD.slot 22 60 (by kernel_rfl) (by kernel_rfl)
          rw [(f22 : vs 22 = .int .u32 (bits .xor .u32 (bits .xor .u32 (wi (crc (a.extract 0 k).data.toList)) (wi (crc (b.extract 0 k).data.toList))) (wi (crc (c.extract 0 k).data.toList))))] at s60
          obtain ⟨fg, sg⟩ := hD.slot 1 39 (by kernel_rfl) (by kernel_rfl)
          rw [(fg : vs 1 = .bool true)] at sg
          refine Facts.step_value (v := .bool true) rfl (Facts.wanted_some (t := 39) rfl (by kernel_rfl) sg) ?_ ⟨hR1, hR2⟩ (Below.refl _ _) rfl
          simp [execOp, s43, s60, go_sem, htri]
        · rintro vs x W ⟨hR1, hR2⟩ hD hB
          obtain ⟨f1, s39⟩ := hD.slot 1 39 (by kernel_rfl) (by kernel_rfl)
          rw [(f1 : vs 1 = .bool true)] at s39
          obtain ⟨f23, s61⟩ := hD.slot 23 61 (by kernel_rfl) (by kernel_rfl)
          rw [(f23 : vs 23 = .bool true)] at s61
          refine Facts.step_value (v := .bool true) rfl (Facts.wanted_none rfl) ?_ ⟨hR1, hR2⟩ (Below.refl _ _) rfl
          simp [execOp, s39, s61, go_sem]
        · rintro vs x W ⟨hR1, hR2⟩ hD hB
          obtain ⟨f24, s62⟩ := hD.slot 24 62 (by kernel_rfl) (by kernel_rfl)
          rw [(f24 : vs 24 = .bool true)] at s62
          refine Facts.step_value (v := .bool true) rfl (Facts.wanted_none rfl) ?_ ⟨hR1, hR2⟩ (Below.refl _ _) rfl
          simp [execOp, s62, go_sem]
      · rintro vs W ⟨hR1, hR2⟩ hF
        have h25 : vs 25 = .bool true := hF 25 (by decide)
        clear hF
        simp only [Facts.frameEnd, List.zipIdx, List.foldl, Act.put, h25, List.setIfInBounds_toArray, List.set_cons_succ, List.set_cons_zero, Nat.reduceAdd]
        go_wp2_with fail
        go_ret
        exact ⟨rfl, hR1⟩
end Linear
end Go.Proofs.Ytdjdoanlancplaa
