/- The document's Take. -/
import Derived.Test.YtpfogfglkknmoaaRefs
import Derived.Test.YtpfogfglkknmoaaCheck
import Derived.BigRegion
import Derived.BigQuiet
namespace Go.Proofs.Ytpfogfglkknmoaa
open Go.RowKit

theorem news3 (W : World) (b : Bk) : ∀ j u, (b.cells)[j]? = some u → (W.alloc (.cells #[.string b.key, .int .i64 b.left, .int .i64 b.at_] 54)).cell? ((⟨W.heap.size, 0, none⟩ : Addr).add j) = some u :=
  World.news_of_block (cs := #[.string b.key, .int .i64 b.left, .int .i64 b.at_]) (t := 54) (fr := (0, 0)) (heap_alloc_new W _)
theorem key_eq_dec (a b : ByteArray) (h : kl a = kl b) : (a.toList == b.toList) = true := by
  rw [Lib.toList_data, Lib.toList_data]; exact beq_iff_eq.2 h
theorem key_ne_dec (a b : ByteArray) (h : kl a ≠ kl b) : (a.toList == b.toList) = false := by
  rw [Lib.toList_data, Lib.toList_data]; exact beq_eq_false_iff_ne.2 h
theorem key_lt_dec (a b : ByteArray) (h : kl a < kl b) : Op.bytesLess a.toList b.toList = true := by
  rw [less_eq, Lib.toList_data, Lib.toList_data]; exact decide_eq_true h
theorem key_nlt_dec (a b : ByteArray) (h : ¬ kl a < kl b) : Op.bytesLess a.toList b.toList = false := by
  rw [less_eq, Lib.toList_data, Lib.toList_data]; exact decide_eq_false h

set_option maxRecDepth 100000 in
set_option maxHeartbeats 8000000 in
theorem rTake_put {T : Int} (l : List Bk) (hv : Valid T l) (hT : T ≤ 1000000000000) (hlen : l.length ≤ 24) (k : ByteArray) (now : Int) (hn : Time now) (v : Value) (w : World) (hs : Sl v l w) (hk0 : ¬ kl k = []) (hL : ¬ LeftP l k now = 0) :
    Calls Try.prog 19 #[v, .string k, .int .i64 now] w fun e w' => ∃ v', e = .returned (.tuple #[v', .int .i64 (takeP l k now).2]) ∧ Below w.heap.size w w' ∧ Sl v' (takeP l k now).1 w' := by
  obtain ⟨i0, hi, hz0, hz1, hz2⟩ := info_parts info54
  have hf := hv.fit hT
  have hleft := fun W hW => rLeft_any l hf (by omega) k now hn v W hW
  have hsweep := fun W hW => rSweep_any l hf (by omega) now hn v W hW
  have hnb := LeftP_bounds hv k now
  have HP := Lib.hid (ref_take hv hlen k now hL hk0)
  have hsl := sweepP_length l now
  have hsf : Fit (sweepP l now) := hf.sweep now
  generalize LeftP l k now = n at *
  generalize hR : runT k n now false (sweepP l now) = R at *
  have HRR := Lib.hid hR
  clear hR
  generalize sweepP l now = s at *
  have hkk := isEmpty_of k hk0
  have HSV := Lib.hid hs
  go_enter Try.func19, Try.ntmps19
  go_wp2_with fail
  go_at_call 21
  refine (hleft _ hs).mono ?_
  rintro e w1 ⟨rfl, hb1⟩
  go_wp2_with fail
  go_at_call 33
  refine (hsweep _ (hs.below hb1)).mono ?_
  rintro e w2 ⟨v2, rfl, hb2, hm2⟩
  have hb0 := below_seq hb1 hb2
  have hs2 := hm2.sl
  obtain ⟨A2, c2, rfl, -, -, -, hr2⟩ := hs2
  have HR2 := Lib.hid hr2
  clear hr2 hm2 hleft hsweep hs hb1 hb2
  go_wp2_with fail
  go_loopw [10, 11, 12, 13] (fun v10 v11 v12 _ wr => ∃ (i : Nat) (put : Bool) (out : List Bk), i ≤ s.length ∧ v12 = .int .i64 (i : Int) ∧ v11 = .bool put ∧ wr.ownsRow w2.heap.size 54 3 v10 out.length (cellsOf out) ∧ out.length ≤ i + 1 ∧ (put = false → out.length ≤ i) ∧ Hid (out ++ runT k n now put (s.drop i) = R) ∧ Below w2.heap.size w2 wr)
    (fun _ _ v12 _ _ => s.length - (intOf v12).toNat)
  case atStart => exact ⟨0, false, [], by omega, rfl, rfl, World.ownsRow_nil _ _ _ _, by simp, fun _ => by simp, Lib.hid (by simpa using HRR.out), Below.refl _ _⟩
  case round =>
    obtain ⟨i, put, out, hik, rfl, rfl, hown, hol, hof, HI, hb⟩ := hrel
    by_cases hlt : i < s.length
    · obtain ⟨g, o, rfl, hg0, c0, c1, c2⟩ := HR2.out.at_ i hlt
      replace c0 := (hb.cell (p := ⟨g, o + i * 3, none⟩) hg0).trans c0
      replace c1 := (hb.cell (p := ⟨g, o + i * 3 + 1, none⟩) hg0).trans c1
      replace c2 := (hb.cell (p := ⟨g, o + i * 3 + 2, none⟩) hg0).trans c2
      have hss := hb.size
      have hgr : g < wr.heap.size := by omega
      have hkl : (i : Int) < (s.length : Int) := by omega
      have hk0 : (0 : Int) ≤ (i : Int) := by omega
      have hfi := hsf _ (List.getElem_mem hlt)
      have hl := hfi.left
      have ha := hfi.at_
      have hne : some g ≠ u10.ownBlock := fun e => by have := (hown.lt _ e.symm).1; omega
      have HD := Lib.hid (List.drop_eq_getElem_cons hlt)
      cases put
      · replace hof := hof rfl
        by_cases hlow : kl (s[i]'hlt).key < kl k
        · have HN : Hid ((out ++ [s[i]'hlt]) ++ runT k n now false (s.drop (i + 1)) = R) := Lib.hid (by rw [← HI.out, HD.out, runT_low hlow]; simp)
          have z1 := key_lt_dec _ _ hlow
          clear hlow
          generalize s[i]'hlt = b at *
          go_wp2_with (at_builtin; refine wpList_append_own _ rfl _ _ 25 rfl w2.heap.size 54 i0 _ 3 32 Try.underlying25 hi hz0 hz1 hz2 rfl (by omega) _ out.length (cellsOf out) rfl (hown.alloc _) ⟨wr.heap.size, 0, none⟩ 1 1 [.string b.key, .int .i64 b.left, .int .i64 b.at_] rfl rfl (news3 wr _) (by simp [Value.oneCell']) (by unfold maxLen; omega) (by omega) (by simp; omega) ?_)
          intro v' w4 hown4 hgrow _
          have hbn := ((hb.alloc hss (.cells #[.string b.key, .int .i64 b.left, .int .i64 b.at_] 54))).grown hgrow (by simp; omega) (fun j hj => (hown.lt j hj).1)
          have HOWN := Lib.hid (show w4.ownsRow w2.heap.size 54 3 v' (out ++ [b]).length (cellsOf (out ++ [b])) by rw [cellsOf_append, List.length_append]; exact hown4)
          clear hown4 hgrow hown
          go_wp2_with fail
          go_roundw
          case rel => exact ⟨i + 1, false, out ++ [b], by omega, by go_num, rfl, HOWN.out, by simp; omega, (fun _ => by simp; omega), HN, hbn⟩
          case measure => simp [intOf]; omega
        · have z1 := key_nlt_dec _ _ hlow
          by_cases heq : kl (s[i]'hlt).key = kl k
          · have HN : Hid ((out ++ [⟨k, n - 1, (s[i]'hlt).at_ + 25 * (n - (s[i]'hlt).left)⟩]) ++ runT k n now true (s.drop (i + 1)) = R) := Lib.hid (by rw [← HI.out, HD.out, runT_eq heq, runT_true]; simp)
            have z2 := key_eq_dec _ _ heq
            clear hlow heq
            generalize s[i]'hlt = b at *
            go_wp2_with fail
            obtain ⟨W, hW⟩ : ∃ W, W = wr.alloc (.cells #[.string k, .int .i64 (n - 1), .int .i64 now] 54) := ⟨_, rfl⟩
            rw [← hW]
            have q0 : W.cell? ⟨wr.heap.size, 0, none⟩ = some (.string k) := by rw [hW]; simp
            have q1 : W.cell? ⟨wr.heap.size, 1, none⟩ = some (.int .i64 (n - 1)) := by rw [hW]; simp
            have q2 : W.cell? ⟨wr.heap.size, 2, none⟩ = some (.int .i64 now) := by rw [hW]; simp
            have qf : W.frozen? ⟨wr.heap.size, 2, none⟩ = false := by rw [hW]; simp
            have hbW : Below wr.heap.size wr W := by rw [hW]; exact (Below.refl _ _).alloc (Nat.le_refl _) _
            clear hW
            replace c0 : W.cell? ⟨g, o + i * 3, none⟩ = some (.string b.key) := (hbW.cell (by exact hgr)).trans c0
            replace c1 : W.cell? ⟨g, o + i * 3 + 1, none⟩ = some (.int .i64 b.left) := (hbW.cell (by exact hgr)).trans c1
            replace c2 : W.cell? ⟨g, o + i * 3 + 2, none⟩ = some (.int .i64 b.at_) := (hbW.cell (by exact hgr)).trans c2
            have hw1 : IntKind.i64.wrap (n - b.left) = n - b.left := IntWalk.i64_in _ (by omega)
            have hw2 : IntKind.i64.wrap (25 * (n - b.left)) = 25 * (n - b.left) := IntWalk.i64_in _ (by omega)
            have hw3 : IntKind.i64.wrap (b.at_ + 25 * (n - b.left)) = b.at_ + 25 * (n - b.left) := IntWalk.i64_in _ (by omega)
            go_region
            obtain ⟨W2, hW2⟩ : ∃ W2, W2 = (W.setCell ⟨wr.heap.size, 2, none⟩ (.int .i64 (b.at_ + 25 * (n - b.left)))).drew := ⟨_, rfl⟩
            rw [← hW2]
            have hbW2 : Below wr.heap.size wr W2 := by rw [hW2]; exact (hbW.setCell (by exact Nat.le_refl _) _).drew
            replace q0 : W2.cell? ⟨wr.heap.size, 0, none⟩ = some (.string k) := by rw [hW2]; exact (World.cell?_setCell_other _ _ _ _ (by simp)).trans q0
            replace q1 : W2.cell? ⟨wr.heap.size, 1, none⟩ = some (.int .i64 (n - 1)) := by rw [hW2]; exact (World.cell?_setCell_other _ _ _ _ (by simp)).trans q1
            replace q2 : W2.cell? ⟨wr.heap.size, 2, none⟩ = some (.int .i64 (b.at_ + 25 * (n - b.left))) := by rw [hW2]; exact World.cell?_setCell_same _ _ _ q2
            replace c0 : W2.cell? ⟨g, o + i * 3, none⟩ = some (.string b.key) := by rw [hW2]; exact (World.cell?_setCell_other _ _ _ _ (fun e => by have := congrArg Addr.block e; simp at this; omega)).trans c0
            replace hb : Below w2.heap.size w2 W2 := below_seq hb hbW2
            replace hown : W2.ownsRow w2.heap.size 54 3 u10 out.length (cellsOf out) := Most.own_below hown hbW2
            replace hss : w2.heap.size ≤ W2.heap.size := hb.size
            have hg2 : g < W2.heap.size := by omega
            clear hW2 hbW2 hbW qf c1 c2 hgr
            go_wp2_with (at_builtin; refine wpList_append_own _ rfl _ _ 25 rfl w2.heap.size 54 i0 _ 3 32 Try.underlying25 hi hz0 hz1 hz2 rfl (by omega) _ out.length (cellsOf out) rfl (hown.alloc _) ⟨W2.heap.size, 0, none⟩ 1 1 [.string k, .int .i64 (n - 1), .int .i64 (b.at_ + 25 * (n - b.left))] rfl rfl (news3 W2 (⟨k, n - 1, b.at_ + 25 * (n - b.left)⟩ : Bk)) (by simp [Value.oneCell']) (by unfold maxLen; omega) (by omega) (by simp; omega) ?_)
            intro v' w4 hown4 hgrow _
            replace c0 := grown_cell (p := ⟨g, o + i * 3, none⟩) hgrow (by simp; omega) hne (Lib.cell?_alloc_some _ c0)
            have hbn := ((hb.alloc hss (.cells #[.string k, .int .i64 (n - 1), .int .i64 (b.at_ + 25 * (n - b.left))] 54))).grown hgrow (by simp; omega) (fun j hj => (hown.lt j hj).1)
            have HOWN := Lib.hid (show w4.ownsRow w2.heap.size 54 3 v' (out ++ [(⟨k, n - 1, b.at_ + 25 * (n - b.left)⟩ : Bk)]).length (cellsOf (out ++ [(⟨k, n - 1, b.at_ + 25 * (n - b.left)⟩ : Bk)])) by rw [cellsOf_append, List.length_append]; exact hown4)
            clear hown4 hgrow hown
            go_wp2_with fail
            go_roundw
            case rel => exact ⟨i + 1, true, out ++ [(⟨k, n - 1, b.at_ + 25 * (n - b.left)⟩ : Bk)], by omega, by go_num, rfl, HOWN.out, by simp; omega, (fun h => by cases h), HN, hbn⟩
            case measure => simp [intOf]; omega
          · have HN : Hid ((out ++ [⟨k, n - 1, now⟩] ++ [s[i]'hlt]) ++ runT k n now true (s.drop (i + 1)) = R) := Lib.hid (by rw [← HI.out, HD.out, runT_high hlow heq, runT_true]; simp)
            have z2 := key_ne_dec _ _ heq
            clear hlow heq
            generalize s[i]'hlt = b at *
            obtain ⟨out2, hout2⟩ : ∃ o : List Bk, o = out ++ [⟨k, n - 1, now⟩] := ⟨_, rfl⟩
            rw [← hout2] at HN
            have hl2 : out2.length ≤ out.length + 1 := by rw [hout2]; simp
            have HO2 := Lib.hid hout2
            clear hout2
            have hN1 := news3 (wr.alloc (.cells #[.string k, .int .i64 (n - 1), .int .i64 now] 54)) ⟨k, n - 1, now⟩
            rw [show (wr.alloc (.cells #[.string k, .int .i64 (n - 1), .int .i64 now] 54)).heap.size = wr.heap.size + 1 from by simp] at hN1
            have HN1 := Lib.hid hN1
            clear hN1
            go_wp2_with (at_builtin; refine wpList_append_own _ rfl _ _ 25 rfl w2.heap.size 54 i0 _ 3 32 Try.underlying25 hi hz0 hz1 hz2 rfl (by omega) _ out.length (cellsOf out) rfl ((hown.alloc _).alloc _) ⟨wr.heap.size + 1, 0, none⟩ 1 1 [.string k, .int .i64 (n - 1), .int .i64 now] rfl rfl (HN1.out) (by simp [Value.oneCell']) (by unfold maxLen; omega) (by omega) (by simp; omega) ?_)
            intro v' w4 hown4 hgrow _
            have hbn4 := ((hb.alloc hss (.cells #[.string k, .int .i64 (n - 1), .int .i64 now] 54)).alloc (by simp; omega) (.cells #[.string k, .int .i64 (n - 1), .int .i64 now] 54)).grown hgrow (by simp; omega) (fun j hj => (hown.lt j hj).1)
            replace c0 := grown_cell (p := ⟨g, o + i * 3, none⟩) hgrow (by simp; omega) hne (Lib.cell?_alloc_some _ (Lib.cell?_alloc_some _ c0))
            replace c1 := grown_cell (p := ⟨g, o + i * 3 + 1, none⟩) hgrow (by simp; omega) hne (Lib.cell?_alloc_some _ (Lib.cell?_alloc_some _ c1))
            replace c2 := grown_cell (p := ⟨g, o + i * 3 + 2, none⟩) hgrow (by simp; omega) hne (Lib.cell?_alloc_some _ (Lib.cell?_alloc_some _ c2))
            replace hown4 : w4.ownsRow w2.heap.size 54 3 v' out2.length (cellsOf out2) := by rw [HO2.out, cellsOf_append, List.length_append]; exact hown4
            clear hgrow hown hne hb hss hgr
            have hss4 := hbn4.size
            go_wp2_with (at_builtin; refine wpList_append_own _ rfl _ _ 25 rfl w2.heap.size 54 i0 _ 3 32 Try.underlying25 hi hz0 hz1 hz2 rfl (by omega) _ out2.length (cellsOf out2) rfl (hown4.alloc _) ⟨w4.heap.size, 0, none⟩ 1 1 [.string b.key, .int .i64 b.left, .int .i64 b.at_] rfl rfl (news3 w4 _) (by simp [Value.oneCell']) (by unfold maxLen; omega) (by omega) (by simp; omega) ?_)
            intro vv w5 hown5 hgrow _
            have hbn := ((hbn4.alloc hss4 (.cells #[.string b.key, .int .i64 b.left, .int .i64 b.at_] 54))).grown hgrow (by simp; omega) (fun j hj => (hown4.lt j hj).1)
            have HOWN := Lib.hid (show w5.ownsRow w2.heap.size 54 3 vv (out2 ++ [b]).length (cellsOf (out2 ++ [b])) by rw [cellsOf_append, List.length_append]; exact hown5)
            clear hown5 hgrow hown4
            go_wp2_with fail
            go_roundw
            case rel => exact ⟨i + 1, true, out2 ++ [b], by omega, by go_num, rfl, HOWN.out, by simp; omega, (fun h => by cases h), HN, hbn⟩
            case measure => simp [intOf]; omega
      · clear hof
        have HN : Hid ((out ++ [s[i]'hlt]) ++ runT k n now true (s.drop (i + 1)) = R) := Lib.hid (by rw [← HI.out, HD.out, runT_true, runT_true]; simp)
        generalize s[i]'hlt = b at *
        go_wp2_with (at_builtin; refine wpList_append_own _ rfl _ _ 25 rfl w2.heap.size 54 i0 _ 3 32 Try.underlying25 hi hz0 hz1 hz2 rfl (by omega) _ out.length (cellsOf out) rfl (hown.alloc _) ⟨wr.heap.size, 0, none⟩ 1 1 [.string b.key, .int .i64 b.left, .int .i64 b.at_] rfl rfl (news3 wr _) (by simp [Value.oneCell']) (by unfold maxLen; omega) (by omega) (by simp; omega) ?_)
        intro v' w4 hown4 hgrow _
        have hbn := ((hb.alloc hss (.cells #[.string b.key, .int .i64 b.left, .int .i64 b.at_] 54))).grown hgrow (by simp; omega) (fun j hj => (hown.lt j hj).1)
        have HOWN := Lib.hid (show w4.ownsRow w2.heap.size 54 3 v' (out ++ [b]).length (cellsOf (out ++ [b])) by rw [cellsOf_append, List.length_append]; exact hown4)
        clear hown4 hgrow hown
        go_wp2_with fail
        go_roundw
        case rel => exact ⟨i + 1, true, out ++ [b], by omega, by go_num, rfl, HOWN.out, by simp; omega, (fun h => by cases h), HN, hbn⟩
        case measure => simp [intOf]; omega
    · obtain rfl : i = s.length := by omega
      have hll : ¬ (s.length : Int) < (s.length : Int) := by omega
      have hRl := hol
      rw [List.drop_length] at HI
      cases put
      · replace hof := hof rfl
        have hss := hb.size
        have HE : Hid (out ++ [⟨k, n - 1, now⟩] = R) := Lib.hid (by rw [← HI.out]; rfl)
        go_wp2_with (at_builtin; refine wpList_append_own _ rfl _ _ 25 rfl w2.heap.size 54 i0 _ 3 32 Try.underlying25 hi hz0 hz1 hz2 rfl (by omega) _ out.length (cellsOf out) rfl (hown.alloc _) ⟨wr.heap.size, 0, none⟩ 1 1 [.string k, .int .i64 (n - 1), .int .i64 now] rfl rfl (news3 wr ⟨k, n - 1, now⟩) (by simp [Value.oneCell']) (by unfold maxLen; omega) (by omega) (by simp; omega) ?_)
        intro v' w4 hown4 hgrow _
        have hbn := (hb.alloc hss (.cells #[.string k, .int .i64 (n - 1), .int .i64 now] 54)).grown hgrow (by simp; omega) (fun j hj => (hown.lt j hj).1)
        obtain ⟨out2, hout2⟩ : ∃ o : List Bk, o = out ++ [⟨k, n - 1, now⟩] := ⟨_, rfl⟩
        rw [← hout2] at HE
        have hl2 : out2.length = out.length + 1 := by rw [hout2]; simp
        replace hown4 : w4.ownsRow w2.heap.size 54 3 v' (out.length + 1) (cellsOf out2) := by rw [hout2, cellsOf_append]; exact hown4
        have HM : Hid (Sl v' out2 w4) := Lib.hid (Made.sl (owned_of_row (by rw [hl2]; exact hown4)))
        clear hout2 hgrow hown
        by_cases h24 : 24 < out.length + 1
        · have hz : (24 : Int) < (out.length : Int) + 1 := by omega
          have HP2 : Hid (takeP l k now = (l, 15)) := Lib.hid (by rw [HP.out, ← HE.out, if_pos (by omega)])
          have HV := Lib.hid ((HSV.out.below hb0).below hbn)
          have HB := Lib.hid (below_seq hb0 hbn)
          clear hl2
          rcases hown4.2 with ⟨rfl, h00⟩ | ⟨gg, cap, cur, rfl, _⟩
          · omega
          · clear hown4
            go_wp2_with fail
            go_ret2
            exact ⟨_, by rw [HP2.out]; rfl, HB.out, by rw [HP2.out]; exact HV.out⟩
        · have hz : ¬ (24 : Int) < (out.length : Int) + 1 := by omega
          have HP2 : Hid (takeP l k now = (out2, 0)) := Lib.hid (by rw [HP.out, ← HE.out, if_neg (by omega)])
          have HB := Lib.hid (below_seq hb0 hbn)
          clear hl2
          rcases hown4.2 with ⟨rfl, h00⟩ | ⟨gg, cap, cur, rfl, _⟩
          · omega
          · clear hown4
            go_wp2_with fail
            go_ret2
            exact ⟨_, by rw [HP2.out]; rfl, HB.out, by rw [HP2.out]; exact HM.out⟩
      · have HE : Hid (out = R) := Lib.hid (by rw [← HI.out, runT_true, List.append_nil])
        have HM := Lib.hid (Made.sl (owned_of_row hown))
        by_cases h24 : 24 < out.length
        · have hz : (24 : Int) < (out.length : Int) := by omega
          have HP2 : Hid (takeP l k now = (l, 15)) := Lib.hid (by rw [HP.out, ← HE.out, if_pos h24])
          have HV := Lib.hid ((HSV.out.below hb0).below hb)
          have HB := Lib.hid (below_seq hb0 hb)
          rcases hown.2 with ⟨rfl, h00⟩ | ⟨gg, cap, cur, rfl, _⟩
          · omega
          · clear hown
            go_wp2_with fail
            go_ret2
            exact ⟨_, by rw [HP2.out]; rfl, HB.out, by rw [HP2.out]; exact HV.out⟩
        · have hz : ¬ (24 : Int) < (out.length : Int) := by omega
          have HP2 : Hid (takeP l k now = (out, 0)) := Lib.hid (by rw [HP.out, ← HE.out, if_neg h24])
          have HB := Lib.hid (below_seq hb0 hb)
          rcases hown.2 with ⟨rfl, h00⟩ | ⟨gg, cap, cur, rfl, _⟩
          · clear hown
            go_wp2_with fail
            go_ret2
            exact ⟨_, by rw [HP2.out]; rfl, HB.out, by rw [HP2.out]; exact HM.out⟩
          · clear hown
            go_wp2_with fail
            go_ret2
            exact ⟨_, by rw [HP2.out]; rfl, HB.out, by rw [HP2.out]; exact HM.out⟩

set_option maxHeartbeats 2000000 in
theorem rTake_none (l : List Bk) (hf : Fit l) (hlen : l.length ≤ 24) (k : ByteArray) (now : Int) (hn : Time now) (v : Value) (w : World) (hs : Sl v l w) (h : LeftP l k now = 0 ∨ kl k = []) :
    Calls Try.prog 19 #[v, .string k, .int .i64 now] w fun e w' => ∃ v', e = .returned (.tuple #[v', .int .i64 22]) ∧ Below w.heap.size w w' ∧ Sl v' l w' := by
  have hleft := rLeft_any l hf (by omega) k now hn v w hs
  have HS := Lib.hid hs
  generalize LeftP l k now = n at h hleft
  by_cases h0 : n = 0
  · subst h0
    go_enter Try.func19, Try.ntmps19
    go_wp2_with fail
    go_at_call 21
    refine hleft.mono ?_
    rintro e w1 ⟨rfl, hb1⟩
    go_wp2_with fail
    go_ret2
    exact ⟨_, rfl, hb1, HS.out.below hb1⟩
  · have hk := empty_of k (h.resolve_left h0)
    subst hk
    go_enter Try.func19, Try.ntmps19
    go_wp2_with fail
    go_at_call 21
    refine hleft.mono ?_
    rintro e w1 ⟨rfl, hb1⟩
    go_wp2_with fail
    go_ret2
    exact ⟨_, rfl, hb1, HS.out.below hb1⟩
theorem rTake_any {T : Int} (l : List Bk) (hv : Valid T l) (hT : T ≤ 1000000000000) (hlen : l.length ≤ 24) (k : ByteArray) (now : Int) (hn : Time now) (v : Value) (w : World) (hs : Sl v l w) :
    Calls Try.prog 19 #[v, .string k, .int .i64 now] w fun e w' => ∃ v', e = .returned (.tuple #[v', .int .i64 (takeP l k now).2]) ∧ Below w.heap.size w w' ∧ Sl v' (takeP l k now).1 w' := by
  by_cases h : LeftP l k now = 0 ∨ kl k = []
  · have e : takeP l k now = (l, 22) := by unfold takeP; rw [if_pos h]
    rw [e]
    exact rTake_none l (hv.fit hT) hlen k now hn v w hs h
  · exact rTake_put l hv hT hlen k now hn v w hs (fun e => h (Or.inr e)) (fun e => h (Or.inl e))
end Go.Proofs.Ytpfogfglkknmoaa
