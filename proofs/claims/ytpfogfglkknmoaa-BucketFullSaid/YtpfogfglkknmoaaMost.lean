/- BucketMost: the walk of the law. -/
import Derived.Test.YtpfogfglkknmoaaSls
import Derived.Test.YtpfogfglkknmoaaSame
import Derived.Laws.OwnMore
namespace Go.Proofs.Ytpfogfglkknmoaa
open Go.RowKit
namespace Most
theorem info2 : (Try.prog.info? 2).map (fun i => (i.zero, i.size, i.bytes)) = some (some (.int .i64 0), 1, 8) := by kernel_rfl
def ivs (ts : List Int) : List Value := ts.map (Value.int .i64)
theorem ivs_length (ts : List Int) : (ivs ts).length = ts.length := by simp [ivs]
theorem keys_ne : kl (keyP 0) ≠ kl (keyP 1) := by decide +kernel

structure St (now : Int) (l : List Bk) (ts : List Int) (k : Nat) : Prop where
  now0 : 0 ≤ now ∧ now ≤ 31 * k
  valid : Valid now l
  len : l.length ≤ 24
  took : Took l (keyP 0) now ts
  cnt : ts.length ≤ k
  bd : ∀ t ∈ ts, 0 ≤ t ∧ t ≤ now
theorem St.start : St 0 [] [] 0 := ⟨by omega, ⟨List.Pairwise.nil, by simp, by simp, by simp⟩, by simp, Took.nil _ _ _, by simp, by simp⟩
theorem St.on {now : Int} {l : List Bk} {ts : List Int} {k : Nat} (h : St now l ts k) (d : Int) (hd : 0 ≤ d ∧ d ≤ 31) : St (now + d) l ts (k + 1) :=
  ⟨by have := h.now0; push_cast; omega, h.valid.later (by omega), h.len, h.took.later h.valid.sorted (by omega), by have := h.cnt; omega, fun t ht => by have := h.bd t ht; omega⟩
theorem St.taken {now : Int} {l : List Bk} {ts : List Int} {k : Nat} (h : St now l ts k) (hok : (takeP l (keyP 0) now).2 = 0) (hc : ts.length + 1 ≤ k) : St now (takeP l (keyP 0) now).1 (ts ++ [now]) k :=
  ⟨h.now0, takeP_valid h.valid _ h.now0.1 (Int.le_refl _), takeP_length _ _ h.len, h.took.take h.valid h.now0.1 hok, by simp; omega, fun t ht => by
    rcases List.mem_append.1 ht with ht | ht
    · exact h.bd t ht
    · simp at ht; subst ht; have := h.now0; omega⟩
theorem St.not {now : Int} {l : List Bk} {ts : List Int} {k : Nat} (h : St now l ts k) (hno : (takeP l (keyP 0) now).2 ≠ 0) : St now (takeP l (keyP 0) now).1 ts k := by
  rw [takeP_unchanged _ _ hno]; exact h
theorem St.other {now : Int} {l : List Bk} {ts : List Int} {k : Nat} (h : St now l ts k) : St now (takeP l (keyP 1) now).1 ts k :=
  ⟨h.now0, takeP_valid h.valid _ h.now0.1 (Int.le_refl _), takeP_length _ _ h.len, h.took.other h.valid h.now0.1 keys_ne, h.cnt, h.bd⟩

theorem own_below {w w' : World} {base : Nat} {e : TypeId} {size n : Nat} {v : Value} {xs : List Value} (h : w.ownsRow base e size v n xs) (hb : Below w.heap.size w w') : w'.ownsRow base e size v n xs := by
  refine ⟨h.1, ?_⟩
  rcases h.2 with h0 | ⟨g, cap, cur, e1, e2, e3, e4⟩
  · exact Or.inl h0
  · have hlt : g < w.heap.size := by
      rcases Nat.lt_or_ge g w.heap.size with hlt | hge
      · exact hlt
      · rw [Array.getElem?_eq_none hge] at e3; cases e3
    exact Or.inr ⟨g, cap, cur, e1, e2, (hb.block g hlt).trans e3, e4⟩

/-- a row of buckets, made late, behind an append onto an elder row -/
theorem made_grown {W w4 : World} {B : Nat} {v : Value} {l : List Bk} {row : Option Nat} {o : Obj} (h : Made B v l W) (hgrow : (W.alloc o).grownBy w4 row) (hrow : ∀ j, row = some j → j < B) : Sl v l w4 := by
  rcases h with ⟨rfl, rfl⟩ | ⟨g, c, rfl, h2, h3, ho⟩
  · exact nil_sl _
  · have hgl := ho.2.1
    have hg : w4.heap[g]? = W.heap[g]? := (hgrow.block g (by simp; omega) (fun e => by have := hrow g e.symm; have := ho.1; omega)).trans (Below.heap_alloc W o g hgl)
    refine ⟨_, c, rfl, h2, h3, by simp, fun hl => ?_⟩
    obtain ⟨g', o', e, hlt, hc⟩ := ho.row hl
    cases e
    refine ⟨g, 0, rfl, by have := hgrow.size; simp at this; omega, fun i hi => ?_⟩
    obtain ⟨x, y, z⟩ := hc i hi
    exact ⟨(World.cell?_of_block (by exact hg)).trans x, (World.cell?_of_block (by exact hg)).trans y, (World.cell?_of_block (by exact hg)).trans z⟩

theorem read_ints {W : World} {base : Nat} {v : Value} {ts : List Int} (h : W.ownsRow base 2 1 v ts.length (ivs ts)) :
    ∃ A c, v = .slice A ts.length c ∧ ∀ i (hi : i < ts.length), ∃ g, A = some ⟨g, 0, none⟩ ∧ g < W.heap.size ∧ W.cell? ⟨g, i, none⟩ = some (.int .i64 (ts[i]'hi)) := by
  have h' := h
  rcases h.2 with ⟨hv, hn⟩ | ⟨g, cap, cur, hv, _, hh, _⟩
  · exact ⟨none, 0, by rw [hv, hn], fun i hi => absurd hi (by omega)⟩
  · subst hv
    refine ⟨_, cap, rfl, fun i hi => ⟨g, rfl, (h'.lt g rfl).2, ?_⟩⟩
    rw [h'.cellAt i (by omega)]
    unfold ivs
    rw [List.getElem?_map, List.getElem?_eq_getElem hi]
    rfl
/-- so many of the takes from i to k lie within w ticks -/
structure Cn (ts : List Int) (w : Int) (i k : Nat) (cnt : Int) : Prop where
  pos : 0 ≤ cnt
  le : cnt ≤ (k : Int) - i
  last : cnt = 0 ∨ ∃ (j : Nat) (h : j < ts.length) (h2 : i ≤ j), ts[j] < ts[i]'(by omega) + w ∧ cnt ≤ (j : Int) - i + 1
theorem Cn.start (ts : List Int) (w : Int) (i : Nat) : Cn ts w i i 0 := ⟨by omega, by omega, Or.inl rfl⟩
theorem Cn.hit {ts : List Int} {w cnt : Int} {i k : Nat} (h : Cn ts w i k cnt) (hk : k < ts.length) (hik : i ≤ k) (hlt : ts[k] < ts[i]'(by omega) + w) : Cn ts w i (k + 1) (cnt + 1) :=
  ⟨by have := h.pos; omega, by have := h.le; push_cast; omega, Or.inr ⟨k, hk, hik, hlt, by have := h.le; omega⟩⟩
theorem Cn.miss {ts : List Int} {w cnt : Int} {i k : Nat} (h : Cn ts w i k cnt) : Cn ts w i (k + 1) cnt := ⟨h.pos, by have := h.le; push_cast; omega, h.last⟩
theorem Cn.bound {ts : List Int} {w cnt now : Int} {i k K : Nat} {l : List Bk} (h : Cn ts w i k cnt) (hst : St now l ts K) (hw : 1 ≤ w) (hw2 : w ≤ 256) : cnt ≤ mostP w := by
  rcases h.last with h0 | ⟨j, hj, hij, hlt, hc⟩
  · rw [h0]; unfold mostP; rw [if_neg (by omega)]; omega
  · exact most_bound hst.took.apart hij hj hw hw2 hc hlt

set_option maxHeartbeats 4000000 in
theorem walk (A : Option Addr) (len c : Nat) (f : Nat → Int × Int) (_hlc : len ≤ c) (hlen : len ≤ maxLen) (q : Int) (w : World) (hs : Src w A len f) :
    Calls Try.prog 5 #[.slice A len c, .int .i64 q] w fun e w' => e = .returned (.bool true) ∧ Below w.heap.size w w' := by
  obtain ⟨i0, hi, hz0, hz1, hz2⟩ := info_parts info2
  have HS := Lib.hid hs
  clear hs
  have hlen' : (len : Int) ≤ 9223372036854775807 := by unfold maxLen at hlen; omega
  obtain ⟨n, hn⟩ : ∃ n, n = min len 60 := ⟨_, rfl⟩
  have HN := Lib.hid hn
  have hn1 : n ≤ len := by omega
  have hn2 : n ≤ 60 := by omega
  have hb255 := i64_and255 q
  have hm0 := Int.emod_nonneg q (show (256 : Int) ≠ 0 by omega)
  have hm1 := Int.emod_lt_of_pos q (show (0 : Int) < 256 by omega)
  generalize q % 256 = m at *
  clear hn
  go_enter Try.func5, Try.ntmps5
  go_wp2_with (go_at_call 10; refine (awake_any _).mono ?_; rintro e w1 ⟨rfl, hb1⟩)
  go_loopw [6, 7, 8, 9, 10, 11] (fun v6 v7 v8 v9 _ _ wr => ∃ (k : Nat) (now : Int) (l : List Bk) (ts : List Int), k ≤ n ∧ v9 = .int .i64 (k : Int) ∧ v7 = .int .i64 now ∧ Sl v6 l wr ∧ wr.ownsRow w.heap.size 2 1 v8 ts.length (ivs ts) ∧ Hid (St now l ts k) ∧ Below w.heap.size w wr)
    (fun _ _ _ v9 _ _ _ => n - (intOf v9).toNat)
  case atStart => exact ⟨0, 0, [], [], by omega, rfl, rfl, nil_sl _, World.ownsRow_nil _ _ _ _, Lib.hid St.start, hb1⟩
  case round =>
    obtain ⟨k, now, l, ts, hk, rfl, rfl, hsl, hown, HST, hb⟩ := hrel
    clear hb1
    by_cases hlt : k < n
    · obtain ⟨ad, rfl, hg, c0, c1⟩ := HS.out k (by omega)
      have hp0 : (ad.add (k * 2)).block < w.heap.size := by rw [block_of_add]; exact hg
      replace c0 := (hb.cell (by exact hp0)).trans c0
      have c1' : wr.cell? ⟨(ad.add (k * 2)).block, (ad.add (k * 2)).off + 1, none⟩ = some (.int .i64 (f k).2) := (hb.cell (by exact hp0)).trans c1
      clear c1
      have hkl : (k : Int) < (len : Int) := by omega
      have hk60 : (k : Int) < 60 := by omega
      have hk0 : (0 : Int) ≤ (k : Int) := by omega
      have hb31 := i64_and31 (f k).2
      have hd0 := Int.emod_nonneg (f k).2 (show (32 : Int) ≠ 0 by omega)
      have hd1 := Int.emod_lt_of_pos (f k).2 (show (0 : Int) < 32 by omega)
      have hb1' := i64_and1 (f k).1
      have he0 := Int.emod_nonneg (f k).1 (show (2 : Int) ≠ 0 by omega)
      have he1 := Int.emod_lt_of_pos (f k).1 (show (0 : Int) < 2 by omega)
      generalize (f k).2 % 32 = d at *
      generalize (f k).1 % 2 = p at *
      generalize (f k).1 = x at *
      generalize (f k).2 = y at *
      have hst := HST.out.on d (by omega)
      have hnow := hst.now0
      have hT : Time (now + d) := by unfold Time; omega
      have htk := fun kk W hW => Take_any l hst.valid (by omega) (by have := hst.len; omega) kk (now + d) hT u6 W hW
      have hkey := fun W => key_any p W
      have hcnt := HST.out.cnt
      have HST2 := Lib.hid hst
      clear hst HST
      by_cases hp : p = 0
      · subst hp
        by_cases hcode : (takeP l (keyP 0) (now + d)).2 = 0
        · have HSN := Lib.hid (HST2.out.taken hcode (by omega))
          have htk := htk (keyP 0)
          rw [hcode] at htk
          clear hcode
          go_wp2_with fail
          go_at_call 12
          refine (hkey _).mono ?_
          rintro e w' ⟨rfl, rfl⟩
          go_wp2_with fail
          go_at_call 13
          refine (htk _ hsl).mono ?_
          rintro e w3 ⟨v3, rfl, hb3, hm3⟩
          have hown3 := own_below hown hb3
          have hrow : ∀ j, u8.ownBlock = some j → j < wr.heap.size := fun j hj => (hown.lt j hj).2
          have hbb := below_seq hb hb3
          have hs3 := hm3.sl
          have c0' := (hb3.cell (p := ad.add (k * 2)) (by have := hb.size; omega)).trans c0
          clear hown hb hsl c0 c1'
          have hss := hbb.size
          have hts : (ts ++ [now + d]).length = ts.length + 1 := by simp
          go_wp2_with (at_builtin; refine wpList_append_own _ rfl _ _ 38 rfl w.heap.size 2 i0 _ 1 8 Try.underlying38 hi hz0 hz1 hz2 rfl (by omega) _ ts.length (ivs ts) rfl (hown3.alloc _) ⟨w3.heap.size, 0, none⟩ 1 1 [.int .i64 (now + d)] rfl rfl ?qc2 (by simp [Value.oneCell']) (by unfold maxLen; omega) (by omega) (by simp; omega) ?_)
          case qc2 =>
            intro j u hj
            match j, hj with
            | 0, hj => simp at hj; subst hj; simp [Addr.add]
            | j + 1, hj => simp at hj
          intro v' w4 hown4 hgrow _
          have hbn := (hbb.alloc hss (.cells #[.int .i64 (now + d)] 2)).grown hgrow (by simp; omega) (fun j hj => (hown3.lt j hj).1)
          have hslN : Sl v3 _ w4 := made_grown hm3 hgrow hrow
          have HOWN := Lib.hid (show w4.ownsRow w.heap.size 2 1 v' (ts ++ [now + d]).length (ivs (ts ++ [now + d])) by rw [hts]; unfold ivs; rw [List.map_append]; exact hown4)
          clear hown4 hgrow hown3 hts
          go_wp2_with fail
          go_roundw
          case rel => exact ⟨k + 1, now + d, _, _, by omega, by go_num, rfl, hslN, HOWN.out, HSN, hbn⟩
          case measure => simp [intOf]; omega
        · have HSN := Lib.hid (HST2.out.not hcode)
          have hz := beq_eq_false_iff_ne.2 hcode
          have htk := htk (keyP 0)
          generalize (takeP l (keyP 0) (now + d)).2 = cd at *
          clear hcode
          go_wp2_with fail
          go_at_call 12
          refine (hkey _).mono ?_
          rintro e w' ⟨rfl, rfl⟩
          go_wp2_with fail
          go_at_call 13
          refine (htk _ hsl).mono ?_
          rintro e w3 ⟨v3, rfl, hb3, hm3⟩
          have hown3 := own_below hown hb3
          have hrow : ∀ j, u8.ownBlock = some j → j < wr.heap.size := fun j hj => (hown.lt j hj).2
          have hbb := below_seq hb hb3
          have hs3 := hm3.sl
          have c0' := (hb3.cell (p := ad.add (k * 2)) (by have := hb.size; omega)).trans c0
          clear hown hb hsl c0 c1'
          go_wp2_with fail
          go_roundw
          case rel => exact ⟨k + 1, now + d, _, _, by omega, by go_num, rfl, hs3, hown3, HSN, hbb⟩
          case measure => simp [intOf]; omega
      · obtain rfl : p = 1 := by omega
        have HSN := Lib.hid HST2.out.other
        have htk := htk (keyP 1)
        generalize (takeP l (keyP 1) (now + d)).2 = cd at *
        clear hp
        by_cases hcd : cd = 0
        · subst hcd
          go_wp2_with fail
          go_at_call 12
          refine (hkey _).mono ?_
          rintro e w' ⟨rfl, rfl⟩
          go_wp2_with fail
          go_at_call 13
          refine (htk _ hsl).mono ?_
          rintro e w3 ⟨v3, rfl, hb3, hm3⟩
          have hown3 := own_below hown hb3
          have hrow : ∀ j, u8.ownBlock = some j → j < wr.heap.size := fun j hj => (hown.lt j hj).2
          have hbb := below_seq hb hb3
          have hs3 := hm3.sl
          have c0' := (hb3.cell (p := ad.add (k * 2)) (by have := hb.size; omega)).trans c0
          clear hown hb hsl c0 c1'
          go_wp2_with fail
          go_roundw
          case rel => exact ⟨k + 1, now + d, _, _, by omega, by go_num, rfl, hs3, hown3, HSN, hbb⟩
          case measure => simp [intOf]; omega
        · have hz := beq_eq_false_iff_ne.2 hcd
          clear hcd
          go_wp2_with fail
          go_at_call 12
          refine (hkey _).mono ?_
          rintro e w' ⟨rfl, rfl⟩
          go_wp2_with fail
          go_at_call 13
          refine (htk _ hsl).mono ?_
          rintro e w3 ⟨v3, rfl, hb3, hm3⟩
          have hown3 := own_below hown hb3
          have hrow : ∀ j, u8.ownBlock = some j → j < wr.heap.size := fun j hj => (hown.lt j hj).2
          have hbb := below_seq hb hb3
          have hs3 := hm3.sl
          have c0' := (hb3.cell (p := ad.add (k * 2)) (by have := hb.size; omega)).trans c0
          clear hown hb hsl c0 c1'
          go_wp2_with fail
          go_roundw
          case rel => exact ⟨k + 1, now + d, _, _, by omega, by go_num, rfl, hs3, hown3, HSN, hbb⟩
          case measure => simp [intOf]; omega
    · have hcase : (¬ (k : Int) < (len : Int)) ∨ ((k : Int) < (len : Int) ∧ ¬ (k : Int) < 60) := by have := HN.out; omega
      obtain ⟨w5, hw5⟩ : ∃ w5, w5 = wr := ⟨_, rfl⟩
      subst hw5
      obtain ⟨A8, c8, rfl, hrd⟩ := read_ints hown
      have HR := Lib.hid hrd
      have hlN : ts.length ≤ 60 := by have := HST.out.cnt; omega
      have HBD := Lib.hid HST.out.bd
      have hnow := HST.out.now0
      have hmost := fun W => most_any (1 + m) (by omega) W
      have HMB := Lib.hid (fun (i k : Nat) (cnt : Int) (h : Cn ts (1 + m) i k cnt) => h.bound HST.out (by omega) (by omega))
      have hn31 : now ≤ 1860 := by omega
      clear hrd hown HST hsl hnow
      rcases hcase with hca | ⟨hca, hcb⟩
      all_goals
        go_wp2_with fail
        go_loopw [13, 14, 15] (fun v13 _ _ wr => ∃ i : Nat, i ≤ ts.length ∧ v13 = .int .i64 (i : Int) ∧ Below w5.heap.size w5 wr)
          (fun v13 _ _ _ => ts.length - (intOf v13).toNat)
        case atStart => exact ⟨0, by omega, rfl, Below.refl _ _⟩
        case round =>
          obtain ⟨i, hi, rfl, hbi⟩ := hrel
          by_cases hil : i < ts.length
          · have hilz : (i : Int) < (ts.length : Int) := by omega
            obtain ⟨g, rfl, hg, ci⟩ := HR.out i hil
            have hbi1 := HBD.out _ (List.getElem_mem hil)
            obtain ⟨w6, hw6⟩ : ∃ w6, w6 = wr := ⟨_, rfl⟩
            subst hw6
            go_wp2_with fail
            go_loopw [14, 15] (fun v14 v15 wr => ∃ (kk : Nat) (cnt : Int), i ≤ kk ∧ kk ≤ ts.length ∧ v15 = .int .i64 (kk : Int) ∧ v14 = .int .i64 cnt ∧ 0 ≤ cnt ∧ cnt ≤ 60 ∧ Hid (Cn ts (1 + m) i kk cnt) ∧ Below w5.heap.size w5 wr)
              (fun _ v15 _ => ts.length - (intOf v15).toNat)
            case atStart => exact ⟨i, 0, by omega, by omega, rfl, rfl, by omega, by omega, Lib.hid (Cn.start _ _ _), hbi⟩
            case round =>
              obtain ⟨kk, cnt, hik, hkn, rfl, rfl, hc0, hc60, HC, hbk⟩ := hrel
              by_cases hkl : kk < ts.length
              · have hklz : (kk : Int) < (ts.length : Int) := by omega
                have hk0 : (0 : Int) ≤ (kk : Int) := by omega
                have hi0 : (0 : Int) ≤ (i : Int) := by omega
                obtain ⟨g', eg, _, ck⟩ := HR.out kk hkl
                cases eg
                replace ck := (hbk.cell (by exact hg)).trans ck
                have ci' := (hbk.cell (by exact hg)).trans ci
                by_cases hq : ts[kk]'hkl < ts[i]'hil + (1 + m)
                · have HCN := Lib.hid (HC.out.hit hkl hik hq)
                  have hle := HC.out.le
                  generalize ts[kk]'hkl = x at *
                  generalize ts[i]'hil = y at *
                  have hwr : IntKind.i64.wrap (y + (1 + m)) = y + (1 + m) := IntWalk.i64_in _ (by omega)
                  go_wp2_with fail
                  go_quiet (fail)
                  go_wp2_with fail
                  go_roundw
                  case rel => exact ⟨kk + 1, cnt + 1, by omega, by omega, by go_num, rfl, by omega, by omega, HCN, below_drewN hbk _⟩
                  case measure => simp [intOf]; omega
                · have HCN := Lib.hid HC.out.miss
                  generalize ts[kk]'hkl = x at *
                  generalize ts[i]'hil = y at *
                  have hwr : IntKind.i64.wrap (y + (1 + m)) = y + (1 + m) := IntWalk.i64_in _ (by omega)
                  go_wp2_with fail
                  go_quiet (fail)
                  go_wp2_with fail
                  go_roundw
                  case rel => exact ⟨kk + 1, cnt, by omega, by omega, by go_num, rfl, by omega, by omega, HCN, below_drewN hbk _⟩
                  case measure => simp [intOf]; omega
              · obtain rfl : kk = ts.length := by omega
                have hle := HMB.out _ _ _ HC.out
                generalize mostP (1 + m) = mp at *
                have hng : ¬ cnt > mp := by omega
                have hnn : ¬ (ts.length : Int) < (ts.length : Int) := by omega
                clear ci hle
                go_wp2_with (go_at_call 17; refine (hmost _).mono ?_; rintro e w' ⟨rfl, rfl⟩)
                go_roundw
                case rel => exact ⟨i + 1, by omega, by go_num, hbk⟩
                case measure => simp [intOf]; omega
          · obtain rfl : i = ts.length := by omega
            have hnn : ¬ (ts.length : Int) < (ts.length : Int) := by omega
            go_wp2_with fail
            go_ret
            exact ⟨rfl, below_seq hb hbi⟩
end Most
end Go.Proofs.Ytpfogfglkknmoaa
