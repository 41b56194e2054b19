/- The law: any bytes, any events: the walk. -/
import Derived.Test.YtjiaoppefinljaaGreatDoorTop
namespace Go.Proofs.YtjiaoppefinljaaGreatDoor.Pk
open Go.RowKit
set_option maxRecDepth 100000

/-- what holds between the statements: what lay there, and the request -/
structure TB (w W : World) (p : Nat) (q : Rq) : Prop where
  below : Below w.heap.size w W
  row : W.heap[p]? = some (.cells q.cells 25 (0, 0))
theorem TB.call {w W X : World} {p : Nat} {q : Rq} (h : TB w W p q) (hb : Below W.heap.size W X) : TB w X p q :=
  ⟨h.below.trans (hb.mono h.below.size), (hb.block p (Array.getElem?_eq_some_iff.1 h.row).1).trans h.row⟩
def evc (e : Ev) : Array Value := #[.int .i64 e.kind, .int .i64 e.account, .int .i64 e.purpose, .int .i64 e.at_, .int .i64 e.n, .string (bs e.a), .string (bs e.b), .string (bs e.c)]
/-- an event in a variable of its own -/
structure XR (wr wc : World) (e : Ev) : Prop where
  row : wc.heap[wr.heap.size]? = some (.cells (evc e) 35 (0, 0))
  below : Below wr.heap.size wr wc
theorem XR.a {wr wc : World} {e : Ev} (h : XR wr wc e) (x : List UInt8) : XR wr (wc.setCell ⟨wr.heap.size, 5, none⟩ (.string (bs x))) { e with a := x } := ⟨row_set h.row 5 _, h.below.setCell (Nat.le_refl _) _⟩
theorem XR.b {wr wc : World} {e : Ev} (h : XR wr wc e) (x : List UInt8) : XR wr (wc.setCell ⟨wr.heap.size, 6, none⟩ (.string (bs x))) { e with b := x } := ⟨row_set h.row 6 _, h.below.setCell (Nat.le_refl _) _⟩
theorem XR.c {wr wc : World} {e : Ev} (h : XR wr wc e) (x : List UInt8) : XR wr (wc.setCell ⟨wr.heap.size, 7, none⟩ (.string (bs x))) { e with c := x } := ⟨row_set h.row 7 _, h.below.setCell (Nat.le_refl _) _⟩
theorem own_ne_row {w : World} {base p : Nat} {v : Value} {n : Nat} {xs : List Value} {cs : Array Value} (h : w.ownsRow base 35 8 v n xs) (hp : w.heap[p]? = some (.cells cs 25 (0, 0))) : some p ≠ v.ownBlock := by
  rcases h.2 with ⟨rfl, _⟩ | ⟨g, cap, cur, rfl, _, hg, _⟩
  · simp [Value.ownBlock]
  · intro e
    simp only [Value.ownBlock, Option.some.injEq] at e
    subst e
    rw [hg] at hp
    injection hp with hp
    injection hp with _ h2
    exact absurd h2 (by decide)
theorem evSl_row {w : World} {A : Option Addr} {n c : Nat} {l : List Ev} (h : EvSl (.slice A n c) l w) : n = l.length ∧ EvRow w A l := by
  obtain ⟨A2, c2, e, hr⟩ := h
  injection e with e1 e2 e3
  subst e1
  exact ⟨e2, hr⟩
theorem TB.drewN {w W : World} {p : Nat} {q : Rq} (h : TB w W p q) (n : Nat) : TB w (W.drewN n) p q := ⟨⟨h.below.os, h.below.tape, h.below.output, h.below.size, h.below.block⟩, h.row⟩
theorem EvRow.drewN {W : World} {A : Option Addr} {l : List Ev} (h : EvRow W A l) (n : Nat) : EvRow (W.drewN n) A l := by
  intro i hi
  obtain ⟨ad, e, hl, ha⟩ := h i hi
  exact ⟨ad, e, hl, ⟨ha.c0, ha.c1, ha.c2, ha.c3, ha.c4, ha.c5, ha.c6, ha.c7⟩⟩
theorem rq_facts (s : List UInt8) : (rqCode (readR s) = 0 ∧ checkR (rqVal (readR s)) = true ∧ bytesRaw (rqVal (readR s)) = s) ∨ (rqCode (readR s) = 10 ∧ (rqVal (readR s)).kind = 0) := by
  cases h : readR s with
  | none => exact Or.inr ⟨rfl, rfl⟩
  | some r =>
    have hb := readR_bytes h
    have hc : checkR r = true := by
      unfold readR at h
      split at h
      · rename_i hc; cases h; exact hc.2
      · cases h
    unfold bytesR at hb
    rw [if_pos hc] at hb
    exact Or.inl ⟨rfl, hc, hb⟩
theorem rd_facts (s : List UInt8) : (rdCode (readB s) = 0 ∧ batchC (rdList (readB s)) = 0 ∧ batchL (rdList (readB s)) = s) ∨ rdCode (readB s) = 10 := by
  cases h : readB s with
  | none => exact Or.inr rfl
  | some l =>
    obtain ⟨h1, h2⟩ := back h
    exact Or.inl ⟨rfl, h2, h1⟩

set_option maxHeartbeats 16000000 in
theorem topBytes_any (s : List UInt8) (hs : s.length ≤ maxLen) (A : Option Addr) (len c : Nat) (hlen : len ≤ maxLen) (f : Nat → Ev) (w : World) (hraw : EvRaw w A len f) {m : Int} {T : TypeId} {fr : Nat × Nat} (hm : w.heap[3]? = some (.cells #[.int .i64 m] T fr)) :
    Calls Tryz.prog 3 #[.string (bs s), .slice A len c] w fun r w' => r = .returned (.bool true) ∧ Below w.heap.size w w' := by
  obtain ⟨i0, hi, hz0, hz1, hz2⟩ := info35_parts
  have haw := Ab.awake_any hm
  have hRaw := Lib.hid hraw
  have hsz : (bs s).size = s.length := rfl
  have hlen' : (len : Int) ≤ 9223372036854775807 := by unfold maxLen at hlen; omega
  have hs' : (s.length : Int) ≤ 9223372036854775807 := by unfold maxLen at hs; omega
  clear hm hraw
  go_enter Tryz.func3, Tryz.ntmps3
  go_wp2_with fail
  go_at_call 4
  refine haw.mono ?_
  rintro r w1 ⟨rfl, hk1⟩
  have hB1 := kept_below hk1
  clear hk1 haw
  go_upto_if 23 with fail
  go_cut [0] (fun v0 wc => v0 = .string (bs (s.take 120)) ∧ Below w.heap.size w wc)
  case first =>
    by_cases h120 : 120 < s.length
    · have z : (120 : Int) < (s.length : Int) := by omega
      go_wp2_with fail
      go_meet
      case rel => exact ⟨by rw [← bs_take' s 120], hB1⟩
    · have z : ¬ (120 : Int) < (s.length : Int) := by omega
      have e : s.take 120 = s := List.take_of_length_le (by omega)
      go_wp2_with fail
      go_meet
      case rel => exact ⟨by rw [e], hB1⟩
  case rest =>
    obtain ⟨rfl, hB2⟩ := hcut
    have hl120 : (s.take 120).length ≤ 120 := List.length_take_le _ _
    have HQ := Lib.hid (rq_facts (s.take 120))
    have HD := Lib.hid (rd_facts (s.take 120))
    have HL := Lib.hid (@rdList_ok (s.take 120))
    have hl24 := @rdList_len (s.take 120)
    have hrd := wireRead_any (s.take 120) (by unfold maxLen; omega) wc
    rw [readV_eq] at hrd
    have hev := fun W => evRead_any (s.take 120) (by unfold maxLen; omega) W
    generalize readB (s.take 120) = RB at *
    generalize readR (s.take 120) = RR at *
    generalize s.take 120 = s1 at *
    generalize rqCode RR = code at *
    generalize rqVal RR = q at *
    unfold Rq.val at hrd
    have ss1 : (bs s1).size = s1.length := rfl
    clear hB1 hsz hs hs'
    go_upto_region 5 with (go_at_call 5; refine hrd.mono ?_; rintro r w3 ⟨rfl, hb3⟩)
    have hT : TB w (w3.alloc (.cells q.cells 25)) w3.heap.size q := ⟨(hB2.trans (hb3.mono hB2.size)).alloc (Nat.le_trans hB2.size hb3.size) _, heap_alloc_new _ _⟩
    unfold Rq.cells at hT
    go_cut [46] (fun v46 wc => v46 = .bool false ∧ TB w wc w3.heap.size q)
    case first =>
      rcases HQ.out with ⟨h0, hck, hby⟩ | ⟨h10, hk0⟩
      · have hcall := wireBytes_any q hck (by rw [hby]; omega) (w3.alloc (.cells q.cells 25))
        rw [hby] at hcall
        unfold Rq.val Rq.cells at hcall
        subst h0
        clear hck hby
        go_wp2_with fail
        go_at_call 6
        refine hcall.mono ?_
        rintro r w4 ⟨rfl, hb4⟩
        have hT4 := hT.call hb4
        clear hb4 hcall
        go_wp2_with fail
        go_meet
        case rel => exact ⟨rfl, hT4⟩
      · subst h10
        clear hk0
        go_wp2_with fail
        go_meet
        case rel => exact ⟨rfl, hT⟩
    case rest =>
      obtain ⟨rfl, hT5⟩ := hcut
      clear hT hrd hB2
      go_upto_region 9 with (first | (go_at_call 7; refine (hev _).mono ?_; rintro r w5 ⟨v, rfl, hv, hb5⟩; obtain ⟨A1, c1, rfl, hr1⟩ := hv) | (go_at_call 8; refine (evBatch_any A1 c1 _ hl24 HL.out _ hr1).mono ?_; rintro r w6 ⟨rfl, hb6⟩))
      have hT6 := (hT5.call hb5).call hb6
      clear hT5 hb5 hb6 hr1 hev
      go_cut [75] (fun v75 wc => v75 = .bool false ∧ TB w wc w3.heap.size q)
      case first =>
        generalize rdCode RB = k1 at *
        generalize batchC (rdList RB) = k2 at *
        generalize batchL (rdList RB) = L2 at *
        rcases HD.out with ⟨d0, d1, d2⟩ | d10
        · subst d0
          subst d1
          subst d2
          go_wp2_with fail
          go_meet
          case rel => exact ⟨rfl, hT6⟩
        · subst d10
          go_wp2_with fail
          go_meet
          case rel => exact ⟨rfl, hT6⟩
      case rest =>
        obtain ⟨rfl, hT7⟩ := hcut
        clear hT6 HD HL hl24
        go_wp2_with fail
        obtain ⟨n, hn⟩ : ∃ n, n = min len 10 := ⟨_, rfl⟩
        have HN := Lib.hid hn
        have hn1 : n ≤ len := by omega
        have hn2 : n ≤ 10 := by omega
        clear hn
        have HT7 := Lib.hid hT7
        clear hT7
        go_loopg [12, 13, 14] n (fun g v12 v13 _ wr => ∃ k : Nat, k ≤ n ∧ g = n - k ∧ v13 = .int .i64 (k : Int) ∧ Hid (wr.ownsRow w.heap.size 35 8 v12 (filt f k).length (cells8 (filt f k))) ∧ Hid (TB w wr w3.heap.size q))
        case atStart => exact ⟨0, by omega, rfl, rfl, Lib.hid (World.ownsRow_nil _ _ _ _), HT7⟩
        case round =>
          obtain ⟨k, hk, rfl, rfl, HO, HT⟩ := hrel
          by_cases hlt : k < n
          · obtain ⟨⟨hla, hlb, hlc⟩, ad, rfl, hbl, hat⟩ := hRaw.out k (by omega)
            have hat2 := hat.below HT.out.below (by rw [blk_add]; exact hbl)
            obtain ⟨c0, c1, c2, c3, c4, c5, c6, c7⟩ := hat2
            have hkl : (k : Int) < (len : Int) := by omega
            have hk10 : (k : Int) < 10 := by omega
            have hk0 : (0 : Int) ≤ (k : Int) := by omega
            have HF := Lib.hid (filt_succ f k)
            have hla' : ((f k).a.length : Int) ≤ 9223372036854775807 := by unfold maxLen at hla; omega
            have hlb' : ((f k).b.length : Int) ≤ 9223372036854775807 := by unfold maxLen at hlb; omega
            have hlc' : ((f k).c.length : Int) ≤ 9223372036854775807 := by unfold maxLen at hlc; omega
            clear hat hla hlb hlc
            generalize f k = e at *
            go_upto_region 16 with fail
            have hX : XR wr (wr.alloc (.cells (evc e) 35)) e := ⟨heap_alloc_new _ _, (Below.refl _ wr).alloc (Nat.le_refl _) _⟩
            unfold evc at hX
            clear c0 c1 c2 c3 c4 c5 c6 c7
            go_upto_if 93 with fail
            go_cut [] (fun wc => XR wr wc { e with a := e.a.take 100 })
            case first =>
              by_cases h1 : 100 < e.a.length
              · have z : (100 : Int) < (e.a.length : Int) := by omega
                have sz : (bs e.a).size = e.a.length := rfl
                go_wp2_with fail
                go_meet
                case rel => exact ⟨by rw [heap_alloc_new]; unfold evc; rw [← bs_take'], (Below.refl _ wr).alloc (Nat.le_refl _) _⟩
              · have z : ¬ (100 : Int) < (e.a.length : Int) := by omega
                have sz : (bs e.a).size = e.a.length := rfl
                have e1 : e.a.take 100 = e.a := List.take_of_length_le (by omega)
                go_wp2_with fail
                go_meet
                case rel => rw [e1]; exact hX
            case rest =>
              clear hX
              have hX := hcut
              clear hcut
              obtain ⟨e2, he2⟩ : ∃ e2 : Ev, e2 = { e with a := e.a.take 100 } := ⟨_, rfl⟩
              have E2 : Hid (e2.b = e.b ∧ e2.c = e.c ∧ cutE e = { e2 with b := e2.b.take 100, c := e2.c.take 100 }) := Lib.hid (by subst he2; exact ⟨rfl, rfl, rfl⟩)
              rw [← he2] at hX
              clear he2
              have l6 : wc.cell? ⟨wr.heap.size, 6, none⟩ = some (.string (bs e2.b)) := row_cell hX.row 6 rfl
              go_upto_if 101 with fail
              go_cut [] (fun wc => XR wr wc { e2 with b := e2.b.take 100 })
              case first =>
                have g6 := row_frozen hX.row 6
                have e6 : ((e2.b.length : Nat) : Int) ≤ 9223372036854775807 := by rw [E2.out.1]; exact hlb'
                by_cases h1 : 100 < e2.b.length
                · have z : (100 : Int) < (e2.b.length : Int) := by omega
                  have sz : (bs e2.b).size = e2.b.length := rfl
                  go_wp2_with fail
                  go_meet
                  case rel => have := hX.b (e2.b.take 100); rw [← bs_take'] at this; exact this
                · have z : ¬ (100 : Int) < (e2.b.length : Int) := by omega
                  have sz : (bs e2.b).size = e2.b.length := rfl
                  have e1 : e2.b.take 100 = e2.b := List.take_of_length_le (by omega)
                  go_wp2_with fail
                  go_meet
                  case rel => rw [e1]; exact hX
              case rest =>
                clear hX l6
                have hX := hcut
                clear hcut
                obtain ⟨e3, he3⟩ : ∃ e3 : Ev, e3 = { e2 with b := e2.b.take 100 } := ⟨_, rfl⟩
                have E3 : Hid (e3.c = e.c ∧ cutE e = { e3 with c := e3.c.take 100 }) := Lib.hid (by subst he3; exact ⟨E2.out.2.1, E2.out.2.2⟩)
                rw [← he3] at hX
                clear he3 E2
                have l7 : wc.cell? ⟨wr.heap.size, 7, none⟩ = some (.string (bs e3.c)) := row_cell hX.row 7 rfl
                go_upto_if 109 with fail
                go_cut [] (fun wc => XR wr wc { e3 with c := e3.c.take 100 })
                case first =>
                  have g7 := row_frozen hX.row 7
                  have e6 : ((e3.c.length : Nat) : Int) ≤ 9223372036854775807 := by rw [E3.out.1]; exact hlc'
                  by_cases h1 : 100 < e3.c.length
                  · have z : (100 : Int) < (e3.c.length : Int) := by omega
                    have sz : (bs e3.c).size = e3.c.length := rfl
                    go_wp2_with fail
                    go_meet
                    case rel => have := hX.c (e3.c.take 100); rw [← bs_take'] at this; exact this
                  · have z : ¬ (100 : Int) < (e3.c.length : Int) := by omega
                    have sz : (bs e3.c).size = e3.c.length := rfl
                    have e1 : e3.c.take 100 = e3.c := List.take_of_length_le (by omega)
                    go_wp2_with fail
                    go_meet
                    case rel => rw [e1]; exact hX
                case rest =>
                  clear hX l7
                  have hX := hcut
                  clear hcut
                  rw [← E3.out.2] at hX
                  have hshort : (cutE e).a.length ≤ 100 ∧ (cutE e).b.length ≤ 100 ∧ (cutE e).c.length ≤ 100 := ⟨List.length_take_le _ _, List.length_take_le _ _, List.length_take_le _ _⟩
                  clear E3 hla' hlb' hlc'
                  generalize cutE e = x at *
                  obtain ⟨ha, hb, hc⟩ := hshort
                  have hck := fun W => evCheck_any x (by unfold maxLen; omega) (by unfold maxLen; omega) (by unfold maxLen; omega) W
                  clear ha hb hc
                  unfold Ev.val at hck
                  have l0 : wc.cell? ⟨wr.heap.size, 0, none⟩ = some (.int .i64 x.kind) := row_cell hX.row 0 rfl
                  have l1 : wc.cell? ⟨wr.heap.size, 1, none⟩ = some (.int .i64 x.account) := row_cell hX.row 1 rfl
                  have l2 : wc.cell? ⟨wr.heap.size, 2, none⟩ = some (.int .i64 x.purpose) := row_cell hX.row 2 rfl
                  have l3 : wc.cell? ⟨wr.heap.size, 3, none⟩ = some (.int .i64 x.at_) := row_cell hX.row 3 rfl
                  have l4 : wc.cell? ⟨wr.heap.size, 4, none⟩ = some (.int .i64 x.n) := row_cell hX.row 4 rfl
                  have l5 : wc.cell? ⟨wr.heap.size, 5, none⟩ = some (.string (bs x.a)) := row_cell hX.row 5 rfl
                  have l6 : wc.cell? ⟨wr.heap.size, 6, none⟩ = some (.string (bs x.b)) := row_cell hX.row 6 rfl
                  have l7 : wc.cell? ⟨wr.heap.size, 7, none⟩ = some (.string (bs x.c)) := row_cell hX.row 7 rfl
                  cases hce : checkE x with
                  | false =>
                    rw [hce] at hck
                    have HF2 : Hid (filt f (k + 1) = filt f k) := Lib.hid (by rw [HF.out, hce, if_neg (by decide)])
                    clear HF hce
                    go_wp2_with fail
                    go_at_call 9
                    refine (hck _).mono ?_
                    rintro r w4 ⟨rfl, hb4⟩
                    have hbb : Below wr.heap.size wr w4 := hX.below.trans (hb4.mono hX.below.size)
                    have HT4 := Lib.hid (HT.out.call hbb)
                    have HO4 : Hid (w4.ownsRow w.heap.size 35 8 u12 (filt f (k + 1)).length (cells8 (filt f (k + 1)))) := Lib.hid (by
                      rw [HF2.out]
                      exact HO.out.kept (Below.grown' hbb) (by cases hv : u12.ownBlock <;> simp))
                    clear hb4 hbb hck hX HO HT l0 l1 l2 l3 l4 l5 l6 l7
                    go_wp2_with fail
                    go_roundg (n - (k + 1))
                    case measure => omega
                    case rel => exact ⟨k + 1, by omega, rfl, by go_num, HO4, HT4⟩
                  | true =>
                    rw [hce] at hck
                    have HF2 : Hid (filt f (k + 1) = filt f k ++ [x]) := Lib.hid (by rw [HF.out, hce, if_pos rfl])
                    have hfl := filt_len f k
                    clear HF hce
                    go_wp2_with fail
                    go_at_call 9
                    refine (hck _).mono ?_
                    rintro r w4 ⟨rfl, hb4⟩
                    have hbb : Below wr.heap.size wr w4 := hX.below.trans (hb4.mono hX.below.size)
                    have hT4 := HT.out.call hbb
                    have ho4 : w4.ownsRow w.heap.size 35 8 u12 (filt f k).length (cells8 (filt f k)) := HO.out.kept (Below.grown' hbb) (by cases hv : u12.ownBlock <;> simp)
                    have hrow := (hb4.block _ (Array.getElem?_eq_some_iff.1 hX.row).1).trans hX.row
                    have HN1 := Lib.hid (news8 w4 x)
                    have HT4 := Lib.hid hT4
                    have hs4 := hT4.below.size
                    clear hb4 hbb hck hX HO HT hT4 l0 l1 l2 l3 l4 l5 l6 l7
                    have l0 : w4.cell? ⟨wr.heap.size, 0, none⟩ = some (.int .i64 x.kind) := row_cell hrow 0 rfl
                    have l1 : w4.cell? ⟨wr.heap.size, 1, none⟩ = some (.int .i64 x.account) := row_cell hrow 1 rfl
                    have l2 : w4.cell? ⟨wr.heap.size, 2, none⟩ = some (.int .i64 x.purpose) := row_cell hrow 2 rfl
                    have l3 : w4.cell? ⟨wr.heap.size, 3, none⟩ = some (.int .i64 x.at_) := row_cell hrow 3 rfl
                    have l4 : w4.cell? ⟨wr.heap.size, 4, none⟩ = some (.int .i64 x.n) := row_cell hrow 4 rfl
                    have l5 : w4.cell? ⟨wr.heap.size, 5, none⟩ = some (.string (bs x.a)) := row_cell hrow 5 rfl
                    have l6 : w4.cell? ⟨wr.heap.size, 6, none⟩ = some (.string (bs x.b)) := row_cell hrow 6 rfl
                    have l7 : w4.cell? ⟨wr.heap.size, 7, none⟩ = some (.string (bs x.c)) := row_cell hrow 7 rfl
                    clear hrow
                    go_wp2_with (at_builtin; refine wpList_append_own _ rfl _ _ 22 rfl w.heap.size 35 i0 _ 8 88 Tryz.underlying22 hi hz0 hz1 hz2 rfl (by omega) _ (filt f k).length (cells8 (filt f k)) rfl (ho4.alloc _) ⟨w4.heap.size, 0, none⟩ 1 1 x.cells rfl rfl HN1.out (cells_one8 x) (by unfold maxLen; omega) (by omega) (by simp; omega) ?_)
                    intro v' w5 hown5 hgrow _
                    have HT5 : Hid (TB w w5 w3.heap.size q) := Lib.hid (by
                      have hp := (Array.getElem?_eq_some_iff.1 HT4.out.row).1
                      refine ⟨(HT4.out.below.alloc hs4 _).grown hgrow (by simp; omega) (fun j hj => (ho4.lt j hj).1), ?_⟩
                      exact (hgrow.block _ (by simp; omega) (own_ne_row ho4 HT4.out.row)).trans ((Lib.alloc_old w4 _ _ hp).trans HT4.out.row))
                    have HO5 : Hid (w5.ownsRow w.heap.size 35 8 v' (filt f (k + 1)).length (cells8 (filt f (k + 1)))) := Lib.hid (by
                      rw [HF2.out, cells8_append, show cells8 [x] = x.cells from by simp [cells8], List.length_append]
                      exact hown5)
                    clear hown5 hgrow ho4 HN1 HT4 l0 l1 l2 l3 l4 l5 l6 l7
                    go_wp2_with fail
                    go_roundg (n - (k + 1))
                    case measure => omega
                    case rel => exact ⟨k + 1, by omega, rfl, by go_num, HO5, HT5⟩
          · obtain rfl : k = n := by omega
            obtain ⟨ao, c2, rfl⟩ := own_slice HO.out
            have hM := (evSl_row (owned_evSl HO.out)).2
            have hok := filt_ok f k
            have hfl := filt_len f k
            have HX := Lib.hid (fun h0 => forth hok (by omega) h0)
            have hbl : (batchL (filt f k)).length ≤ 10000 := by
              have := putsE_len hok
              have := enc_len10 (n := (filt f k).length) (by omega)
              unfold batchL
              split
              · simp
              · rw [List.length_append]; omega
            have HC : Hid ((filt f k).length ≠ 0 → batchC (filt f k) = 0) := Lib.hid (fun h0 => by unfold batchC; rw [if_neg h0])
            have hba := fun W hW => evBatch_any ao c2 (filt f k) (by omega) hok W hW
            have hev := fun W => evRead_any (batchL (filt f k)) (by unfold maxLen; omega) W
            generalize readB (batchL (filt f k)) = RB2 at *
            generalize batchL (filt f k) = L2 at *
            generalize batchC (filt f k) = k2 at *
            generalize filt f k = M at *
            clear hok
            go_upto_region 13 with fail
            have hwr : wr = wr := rfl
            go_cut [83] (fun v83 wc => v83 = .bool false ∧ wr = wc)
            case first =>
              by_cases hL : k < len
              · have z1 : (k : Int) < (len : Int) := by omega
                have z2 : ¬ (k : Int) < 10 := by have := HN.out; omega
                go_wp2_with fail
                go_meet
                case rel => exact ⟨rfl, rfl⟩
              · have z1 : ¬ (k : Int) < (len : Int) := by omega
                go_wp2_with fail
                go_meet
                case rel => exact ⟨rfl, rfl⟩
            case rest =>
            obtain ⟨rfl, rfl⟩ := hcut
            go_upto_region 26 with (first | (go_at_call 8; refine (hba _ hM).mono ?_; rintro r w5 ⟨rfl, hb5⟩) | (go_at_call 7; refine (hev _).mono ?_; rintro r w6 ⟨v, rfl, hv, hb6⟩; obtain ⟨A7, c7, rfl, hr7⟩ := hv))
            have hT6 := Lib.hid ((HT.out.call hb5).call hb6)
            have hM6 := Lib.hid ((hM.below hb5).below hb6)
            have HR7 := Lib.hid hr7
            have HL7 : Hid (M.length ≠ 0 → rdList RB2 = M) := Lib.hid (fun h0 => by rw [HX.out h0]; rfl)
            have HK7 : Hid (M.length ≠ 0 → rdCode RB2 = 0) := Lib.hid (fun h0 => by rw [HX.out h0]; rfl)
            generalize rdCode RB2 = k7 at *
            generalize rdList RB2 = M7 at *
            clear hM hba hev hb5 hb6 hr7 HX HO HT hbl
            go_cut [147] (fun v147 wc => v147 = .bool false ∧ w6 = wc)
            case first =>
              by_cases h0 : M.length = 0
              · have z : ¬ (0 : Int) < (M.length : Int) := by omega
                clear h0
                go_wp2_with fail
                go_meet
                case rel => exact ⟨rfl, rfl⟩
              · have z : (0 : Int) < (M.length : Int) := by omega
                have e1 := HC.out h0
                have e2 := HK7.out h0
                have e3 := HL7.out h0
                subst e1
                subst e2
                subst e3
                clear h0
                go_wp2_with fail
                go_meet
                case rel => exact ⟨rfl, rfl⟩
            case rest =>
            obtain ⟨rfl, rfl⟩ := hcut
            go_wp2_with fail
            go_loopw [19] (fun v19 wr => ∃ i : Nat, i ≤ M.length ∧ v19 = .int .i64 (i : Int) ∧ Hid (TB w wr w3.heap.size q) ∧ Hid (EvRow wr ao M) ∧ Hid (EvRow wr A7 M7))
              (fun v19 _ => M.length - (intOf v19).toNat)
            case atStart => exact ⟨0, by omega, rfl, hT6, hM6, HR7⟩
            case round =>
              obtain ⟨i, hi2, rfl, HT, HM, H7⟩ := hrel
              by_cases hlt2 : i < M.length
              · have e3 := HL7.out (by omega)
                subst e3
                obtain ⟨ad, rfl, -, hat⟩ := HM.out i hlt2
                obtain ⟨ad7, rfl, -, hat7⟩ := H7.out i hlt2
                obtain ⟨c0, c1, c2, c3, c4, c5, c6, c7⟩ := hat
                obtain ⟨d0, d1, d2, d3, d4, d5, d6, d7⟩ := hat7
                have hkl : (i : Int) < (M7.length : Int) := by omega
                have hk0 : (0 : Int) ≤ (i : Int) := by omega
                generalize M7[i]'hlt2 = e at *
                have hX := neq35 e
                go_wp2_with fail
                go_quiet (fail)
                go_wp2_with fail
                go_roundw
                case rel => exact ⟨i + 1, by omega, by go_num, Lib.hid (HT.out.drewN _), Lib.hid (HM.out.drewN _), Lib.hid (H7.out.drewN _)⟩
                case measure => simp [intOf]; omega
              · have hll : ¬ (i : Int) < (M.length : Int) := by omega
                rcases HQ.out with ⟨h0, -, -⟩ | ⟨h10, hk0⟩
                · subst h0
                  go_wp2_with fail
                  go_ret
                  exact ⟨rfl, HT.out.below⟩
                · subst h10
                  have l0 : wr.cell? ⟨w3.heap.size, 0, none⟩ = some (.int .i64 q.kind) := row_cell HT.out.row 0 rfl
                  rw [hk0] at l0
                  clear hk0
                  go_wp2_with fail
                  go_ret
                  exact ⟨rfl, HT.out.below⟩
end Go.Proofs.YtjiaoppefinljaaGreatDoor.Pk
