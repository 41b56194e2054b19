/- TopBytes: any bytes are a request, a batch of events, or refused; what was written is read: for any bytes and any events the law answers true, and both read behind the call as they read before. The tied card: five tables of Go's library stand as the program's text lays them; no other condition. -/
import Derived.Test.YtjiaoppefinljaaGreatDoorTopb
import Derived.Test.YtjiaoppefinljaaGreatDoorTopFacts
import Derived.Test.YtjiaoppefinljaaGreatDoorTie
import Derived.Test.YtjiaoppefinljaaGreatDoorCards
import Derived.WalkKit
import Derived.ProofKit
import Derived.OpenShut
import Derived.Lib.SmallJoins
import Derived.Deep.Strs
import Derived.LaidMore
import Derived.Lay
import Derived.Shelf.Vars
import Derived.SizedLaws
import Derived.SevenTiedAt
import Derived.Stop.Joined
namespace Go.Proofs.YtjiaoppefinljaaGreatDoor
open Go.ChangeShapes Go.WideShapes Go.ChangeAt Go.RowKit Go.Deep
open Go.ChangeMaps (open_string shut_string)
open Pk
set_option maxRecDepth 100000

section
variable {H : Type} {enc : TypeId × Value → H} {P : Program}
theorem trodAll_below (hl : laidOutB P = true) {W W' : World} (hb : Below W.heap.size W W') : ∀ (ts : List TypeId) (vs : List Value) (ds : List (DataW H)) (ps : List MemPlace), (∀ t ∈ ts, P.readableRec t = true ∧ t < P.types.size) →
    DataW.TrodAll enc P W 0 (fun _ => true) true ts vs ds ps → (∀ x ∈ ps, x.block < W.heap.size) → DataW.TrodAll enc P W' 0 (fun b => decide (b < W.heap.size)) true ts vs ds ps
  | [], vs, ds, ps, _, h, _ => by
    obtain ⟨rfl, rfl, rfl⟩ := trodAll_nil h
    exact trodAll_mk0
  | t :: ts, vs, ds, ps, hr, h, hp => by
    obtain ⟨v, vs', d, ds', p, q, rfl, rfl, rfl, h0, h1⟩ := trodAll_cons h
    refine trodAll_cons_mk (Below.trod hl (hr t (by simp)).1 (hr t (by simp)).2 h0 hb (fun x hx => hp x (by simp [hx]))) ?_
    exact trodAll_below hl hb ts vs' ds' q (fun u hu => hr u (by simp [hu])) h1 (fun x hx => hp x (by simp [hx]))

/-- the row's last step -/
theorem law_post {f : Func} {s : ChangeSpec} {tb : TypeId} {W W' : World} {args : Array Value} {ds gs : List (DataW H)} {before : List MemPlace}
    (hl : laidOutB P = true) (hvs : s.vars = []) (hrt : f.resultTypes = #[tb]) (htb : P.underlying tb = some .bool)
    (hr : ∀ t ∈ f.params.toList, P.readableRec t = true ∧ t < P.types.size)
    (hW : DataW.Whole enc P f.params.toList s.vars false W args.toList ds gs before)
    (hs : s.fn H (ds ++ gs) = { results := [.lit (.bool true)], args := ds }) (hb : Below W.heap.size W W') :
    s.post enc P f false true false false W args (.bool true) W' := by
  have hlt : ∀ p ∈ before, p.block < W.heap.size := fun p hp => hW.lt p hp
  have hW' := hW
  obtain ⟨p, q, hA, hV, rfl, hfz, hnd⟩ := hW
  rw [hvs] at hV
  obtain ⟨rfl, rfl⟩ := trodVars_none hV
  refine ⟨ds, [], p ++ [], [], p, [], hW', ?_, ?_, ?_, hb.frame _, fun h => by cases h⟩
  · rw [hs, hrt]
    exact trodAll_cons_mk (shut_bool htb _) trodAll_mk0
  · rw [hs]
    exact trodAll_below hl hb _ _ _ _ hr hA (fun x hx => hlt x (by simp [hx]))
  · rw [hs, hvs]
    rfl

/-- the wrap of a row that lists variables, the world's shape kept -/
theorem handed_and_shaped {a : Assume} {C : Checked} {os : Os} {f : FuncId} {fn : Func} {s : ChangeSpec} {conds : List PathCond} {apart fresh handsOn again : Bool} {X : World → Array Value → Prop}
    (hX : ∀ (w w' : World) (args : Array Value), w.heap = w'.heap → X w args → X w' args)
    (own : ownKnob C.prog.godebug = none) (started : os.Started) (noInit : C.prog.inits.idxOf? f = none) (hfn : C.prog.funcs[f]? = some fn)
    (witness : ∃ (w : World) (tape : Tape) (i : Input), w.os = os ∧ (w.forCall tape i).Shaped C.prog ∧ i.vars = [] ∧ Input.okWide C.prog (w.forCall tape i) .any w.heap.size f i ∧
      ((s.pre enc C.prog fn conds apart (w.forCall tape i).memory i.args ∧ X (w.forCall tape i).memory i.args) ∧ sizedMet enc C.prog fn (OpenSpec.ofChange s) apart (w.forCall tape i).memory i.args) ∧ a.holds C.prog (lone (Frame.enter C.prog f i.args .normal) [] (w.forCall tape i)))
    (contract : ∀ (W : World) (base : Nat) (args : Array Value) (ds gs : List (DataW H)) (before : List MemPlace),
      (∀ (j : Nat) t v, fn.params[j]? = some t → args[j]? = some v → Value.okWide C.prog W .any base t v) →
      DataW.Whole enc C.prog fn.params.toList s.vars apart W args.toList ds gs before → X W args → W.ShapedOpen C.prog →
      Calls C.prog f args W fun e W' => ∃ v, e = .returned v ∧ s.post enc C.prog fn apart fresh handsOn again W args v W') :
    ReturnsInHanded a C os f .any (fun w args => (s.pre enc C.prog fn conds apart w args ∧ X w args) ∧ sizedMet enc C.prog fn (OpenSpec.ofChange s) apart w args) (s.post enc C.prog fn apart fresh handsOn again) := by
  refine returnsInHanded_of_calls own started noInit witness ?_
  intro w tape i _ hsh _ hok hpre _
  obtain ⟨_, _, _, fn', hfn', _, _, _, _, hval⟩ := hok
  have e : fn' = fn := Option.some.inj (hfn'.symm.trans hfn)
  subst e
  obtain ⟨⟨⟨ds, gs, before, hw, _⟩, hx⟩, _⟩ := hpre
  have hw' := DataW.Whole.of_heap (w' := w.forCall tape i) (by rfl) hw
  refine (contract (w.forCall tape i) w.heap.size i.args ds gs before hval hw' (hX _ _ _ (by rfl) hx) hsh).mono fun e W' ⟨v, he, hp⟩ => ?_
  subst he
  exact ChangeSpec.post_blind hp
end

theorem bs_self (s : ByteArray) : bs s.data.toList = s := by
  cases s with
  | mk d => unfold bs; simp
theorem cell_lt {w : World} {p : Addr} {v : Value} (h : w.cell? p = some v) : p.block < w.heap.size := by
  rcases Nat.lt_or_ge p.block w.heap.size with hlt | hge
  · exact hlt
  · unfold World.cell? at h
    rw [Array.getElem?_eq_none hge] at h
    cases h
theorem cells9 : Tryz.prog.cellsOf 9 = 1 := by kernel_rfl
theorem cells3 : Tryz.prog.cellsOf 3 = 1 := by kernel_rfl
theorem cells2 : Tryz.prog.cellsOf 2 = 1 := by kernel_rfl
theorem cells35 : Tryz.prog.cellsOf 35 = 8 := by kernel_rfl
section
variable {H : Type} {enc : TypeId × Value → H} {P : Program}
theorem trod_struct8 {w : World} {spare : Nat → Bool} {held : Bool} {base : Nat} {t : TypeId} {f0 f1 f2 f3 f4 f5 f6 f7 : Field} {fuel : Nat} {cs : List Value} {x : DataW H × List MemPlace} (ht : P.underlying t = some (.struct #[f0, f1, f2, f3, f4, f5, f6, f7])) (h : DataW.trod enc P w base spare held fuel t cs = some x) :
    ∃ y0 y1 y2 y3 y4 y5 y6 y7 n, cs.length = P.cellsOf t ∧ DataW.trod enc P w base spare held n f0.type ((cs.drop f0.offset).take (P.cellsOf f0.type)) = some y0 ∧ DataW.trod enc P w base spare held n f1.type ((cs.drop f1.offset).take (P.cellsOf f1.type)) = some y1 ∧ DataW.trod enc P w base spare held n f2.type ((cs.drop f2.offset).take (P.cellsOf f2.type)) = some y2 ∧ DataW.trod enc P w base spare held n f3.type ((cs.drop f3.offset).take (P.cellsOf f3.type)) = some y3 ∧ DataW.trod enc P w base spare held n f4.type ((cs.drop f4.offset).take (P.cellsOf f4.type)) = some y4 ∧ DataW.trod enc P w base spare held n f5.type ((cs.drop f5.offset).take (P.cellsOf f5.type)) = some y5 ∧ DataW.trod enc P w base spare held n f6.type ((cs.drop f6.offset).take (P.cellsOf f6.type)) = some y6 ∧ DataW.trod enc P w base spare held n f7.type ((cs.drop f7.offset).take (P.cellsOf f7.type)) = some y7 := by
  obtain ⟨xs, n, _, rfl, hl, hlen, hf⟩ := DataW.trod_struct ht h
  match xs, hlen with
  | [y0, y1, y2, y3, y4, y5, y6, y7], _ => exact ⟨y0, y1, y2, y3, y4, y5, y6, y7, n, hl, by simpa using hf 0 f0 rfl, by simpa using hf 1 f1 rfl, by simpa using hf 2 f2 rfl, by simpa using hf 3 f3 rfl, by simpa using hf 4 f4 rfl, by simpa using hf 5 f5 rfl, by simpa using hf 6 f6 rfl, by simpa using hf 7 f7 rfl⟩
set_option maxHeartbeats 4000000 in
/-- events as they came in, opened -/
theorem open_evs {w : World} {spare : Nat → Bool} {held : Bool} {r : Reach} {b0 base : Nat} {t e : TypeId} {f0 f1 f2 f3 f4 f5 f6 f7 : Field} {v : Value} {d : DataW H} {p : List MemPlace}
    (ht : P.underlying t = some (.slice e)) (he : P.underlying e = some (.struct #[f0, f1, f2, f3, f4, f5, f6, f7]))
    (hi0 : P.underlying f0.type = some (.int .i64)) (hi1 : P.underlying f1.type = some (.int .i64)) (hi2 : P.underlying f2.type = some (.int .i64)) (hi3 : P.underlying f3.type = some (.int .i64)) (hi4 : P.underlying f4.type = some (.int .i64)) (hi5 : P.underlying f5.type = some .string) (hi6 : P.underlying f6.type = some .string) (hi7 : P.underlying f7.type = some .string)
    (o0 : f0.offset = 0) (o1 : f1.offset = 1) (o2 : f2.offset = 2) (o3 : f3.offset = 3) (o4 : f4.offset = 4) (o5 : f5.offset = 5) (o6 : f6.offset = 6) (o7 : f7.offset = 7)
    (hc0 : P.cellsOf f0.type = 1) (hc1 : P.cellsOf f1.type = 1) (hc2 : P.cellsOf f2.type = 1) (hc3 : P.cellsOf f3.type = 1) (hc4 : P.cellsOf f4.type = 1) (hc5 : P.cellsOf f5.type = 1) (hc6 : P.cellsOf f6.type = 1) (hc7 : P.cellsOf f7.type = 1) (hce : P.cellsOf e = 8)
    (hv : Value.okWide P w r b0 t v) (h : DataW.Trod enc P w base spare held t v d p) :
    ∃ (A : Option Addr) (len c : Nat) (f : Nat → Ev), v = .slice A len c ∧ len ≤ maxLen ∧ EvRaw w A len f := by
  obtain ⟨a, len, cap, rfl⟩ := okWide_slice ht hv
  obtain ⟨fuel, hf⟩ := h
  rcases open_slice ht hf with ⟨h0, _⟩ | ⟨a', len', cap', m, n, D, Pl, h0, hb, hl, hm, hmm, _, hel⟩
  · simp only [Value.cells, List.cons.injEq, and_true, Value.slice.injEq] at h0
    obtain ⟨rfl, rfl, rfl⟩ := h0
    exact ⟨none, 0, 0, fun _ => ⟨0, 0, 0, 0, 0, [], [], []⟩, rfl, Nat.zero_le _, fun i hi => absurd hi (by omega)⟩
  · simp only [Value.cells, List.cons.injEq, and_true, Value.slice.injEq] at h0
    obtain ⟨rfl, rfl, rfl⟩ := h0
    have key : ∀ k, k < len → ∃ e : Ev, (e.a.length ≤ maxLen ∧ e.b.length ≤ maxLen ∧ e.c.length ≤ maxLen) ∧ EvAt w (a'.add (k * 8)) e := by
      intro k hk
      have hkm : k < m := by rw [hmm]; split <;> omega
      obtain ⟨cs', hc, htr⟩ := hel k hkm
      rw [hce] at hc
      obtain ⟨_, hcl, hat⟩ := World.cells?_some hc
      obtain ⟨y0, y1, y2, y3, y4, y5, y6, y7, n', _, t0, t1, t2, t3, t4, t5, t6, t7⟩ := trod_struct8 he htr
      match cs', hcl with
      | [u0, u1, u2, u3, u4, u5, u6, u7], _ =>
        rw [o0, hc0] at t0
        rw [o1, hc1] at t1
        rw [o2, hc2] at t2
        rw [o3, hc3] at t3
        rw [o4, hc4] at t4
        rw [o5, hc5] at t5
        rw [o6, hc6] at t6
        rw [o7, hc7] at t7
        simp only [List.drop_zero, List.take_succ_cons, List.take_zero, List.drop_succ_cons] at t0 t1 t2 t3 t4 t5 t6 t7
        obtain ⟨z0, e0, _, _⟩ := DataW.trod_int hi0 t0
        obtain ⟨z1, e1, _, _⟩ := DataW.trod_int hi1 t1
        obtain ⟨z2, e2, _, _⟩ := DataW.trod_int hi2 t2
        obtain ⟨z3, e3, _, _⟩ := DataW.trod_int hi3 t3
        obtain ⟨z4, e4, _, _⟩ := DataW.trod_int hi4 t4
        obtain ⟨s5, e5, _, h5⟩ := DataW.trod_string hi5 t5
        obtain ⟨s6, e6, _, h6⟩ := DataW.trod_string hi6 t6
        obtain ⟨s7, e7, _, h7⟩ := DataW.trod_string hi7 t7
        simp only [List.cons.injEq, and_true] at e0 e1 e2 e3 e4 e5 e6 e7
        subst e0 e1 e2 e3 e4 e5 e6 e7
        have g0 := hat 0 (by omega)
        have g1 := hat 1 (by omega)
        have g2 := hat 2 (by omega)
        have g3 := hat 3 (by omega)
        have g4 := hat 4 (by omega)
        have g5 := hat 5 (by omega)
        have g6 := hat 6 (by omega)
        have g7 := hat 7 (by omega)
        refine ⟨⟨z0, z1, z2, z3, z4, s5.data.toList, s6.data.toList, s7.data.toList⟩, ⟨h5, h6, h7⟩, g0, g1, g2, g3, g4, ?_, ?_, ?_⟩
        · rw [bs_self]; exact g5
        · rw [bs_self]; exact g6
        · rw [bs_self]; exact g7
    refine ⟨some a', len, cap, fun k => if hk : k < len then (key k hk).choose else ⟨0, 0, 0, 0, 0, [], [], []⟩, rfl, by omega, fun k hk => ?_⟩
    have hs := (key k hk).choose_spec
    simp only [hk, dif_pos]
    refine ⟨hs.1, a', rfl, ?_, hs.2⟩
    have := cell_lt hs.2.c0
    rwa [blk_add] at this
end

theorem own : ownKnob Tryz.prog.godebug = none := by kernel_rfl
theorem laidOut : laidOutB Tryz.prog = true := by kernel_rfl
theorem types_ok : ∀ t ∈ Tryz.f3.params.toList, Tryz.prog.readableRec t = true ∧ t < Tryz.prog.types.size := by
  rw [Tryz.params3]
  intro t ht
  simp only [List.mem_cons, List.not_mem_nil, or_false] at ht
  rcases ht with rfl | rfl
  all_goals exact ⟨by kernel_rfl, of_decide_eq_true (by kernel_rfl)⟩
/-- internal/bytealg.MaxLen holds some number -/
theorem maxLen_cell {W : World} (h : W.ShapedOpen Tryz.prog) : ∃ m, W.heap[3]? = some (.cells #[.int .i64 m] 3 (0, 0)) := by
  have h0 : ((begin Tryz.prog (fun _ _ => 0) default).world.heap[3]?).bind Obj.row? = some (#[.int .i64 0], 3) := by kernel_rfl
  have hg : 3 < Tryz.prog.globals.size := of_decide_eq_true (by kernel_rfl)
  obtain ⟨m, hm⟩ := cell_of_shapedOpen_int h hg h0 rfl (by kernel_rfl) (by kernel_rfl) Tryz.underlying3
  obtain ⟨cs, hh, hs, _⟩ := h.1 3 _ _ hg h0
  refine ⟨m, ?_⟩
  rw [hh]
  unfold World.cell? at hm
  rw [hh] at hm
  cases cs with
  | mk l =>
    match l, hs, hm with
    | [x], _, hm =>
      have hx : some x = some (Value.int .i64 m) := hm
      rw [Option.some.inj hx]

set_option maxHeartbeats 4000000 in
theorem lifted (os : Os) (started : os.Started) (H : Type) (enc : TypeId × Value → H) :
    ReturnsInHanded {} Tryz.checked os 3 .any (fun w args => (Rows.topBytesSpec.pre enc Tryz.prog Tryz.f3 Rows.topBytesRow.domain false w args ∧ laidMetH Tryz.prog Rows.topBytesRow.laid w) ∧ sizedMet enc Tryz.prog Tryz.f3 (OpenSpec.ofChange Rows.topBytesSpec) false w args)
      (Rows.topBytesSpec.post enc Tryz.prog Tryz.f3 false true false false) := by
  refine handed_and_shaped (C := Tryz.checked) (X := fun w _ => laidMetH Tryz.prog Rows.topBytesRow.laid w) (fun _ _ _ hh h => h.of_heap hh) own started (by kernel_rfl) Tryz.func3
    (ChangeSpec.witness_shaped (enc := enc) (C := Tryz.checked) (os := os) (X := fun w _ => laidMetH Tryz.prog Rows.topBytesRow.laid w) false (World.laidAll Tryz.prog os Rows.topBytesRow.laid) #[.string ⟨#[]⟩, .slice none 0 0] 8 (World.laidAll_os _ _ _)
      (World.shaped_of_ZipB (by kernel_rfl) (by kernel_rfl)) (by kernel_rfl) (by kernel_rfl) (by kernel_rfl)
      (by rw [MakeChecks.laidMetH_plain _ _ _ (by kernel_rfl)]; exact laidMet_laidAll _ (by kernel_rfl) (by kernel_rfl))) ?_
  intro W base args ds gs before hval0 hW _ hsh
  have hval : ∀ (j : Nat) t v, Tryz.f3.params[j]? = some t → args[j]? = some v → Value.okWide Tryz.prog W .any base t v := hval0
  have hW' := hW
  obtain ⟨p, q, hA0, hV, rfl, hfz, hnd⟩ := hW
  have hA : DataW.TrodAll enc Tryz.prog W 0 (fun _ => true) true Tryz.f3.params.toList args.toList ds p := hA0
  rw [Tryz.params3] at hA hval
  obtain ⟨v0, vs0, d0, ds0, p0, q0, hargs, rfl, rfl, h0, r0⟩ := trodAll_cons hA
  obtain ⟨v1, vs1, d1, ds1, p1, q1, rfl, rfl, rfl, h1, r1⟩ := trodAll_cons r0
  obtain ⟨rfl, rfl, rfl⟩ := trodAll_nil r1
  obtain rfl : args = #[v0, v1] := by cases args; simp_all
  obtain ⟨rfl, rfl⟩ := trodVars_none hV
  obtain ⟨s, rfl, rfl, rfl, ws⟩ := open_string Tryz.underlying9 (hval 0 9 v0 rfl rfl) h0
  obtain ⟨A, len, c, f, rfl, hlen, hraw⟩ := open_evs Tryz.underlying22 Tryz.underlying35 Tryz.underlying3 Tryz.underlying3 Tryz.underlying3 Tryz.underlying2 Tryz.underlying2 Tryz.underlying9 Tryz.underlying9 Tryz.underlying9
    rfl rfl rfl rfl rfl rfl rfl rfl cells3 cells3 cells3 cells2 cells2 cells9 cells9 cells9 cells35 (hval 1 22 v1 rfl rfl) h1
  obtain ⟨m, hm⟩ := maxLen_cell hsh
  have hs : s.data.toList.length ≤ maxLen := ws
  have hwalk := topBytes_any s.data.toList hs A len c hlen f W hraw hm
  rw [bs_self] at hwalk
  refine hwalk.mono fun e W' ⟨he, hb⟩ => ?_
  subst he
  exact ⟨_, rfl, law_post laidOut rfl rfl Tryz.underlying4 types_ok hW' rfl hb⟩
theorem topBytes_row : Rows.TopBytesSaid :=
  OpenClaim.holds_of_wide 3 Tryz.f3 rfl rfl rfl rfl rfl rfl rfl ⟨rfl, rfl, rfl, rfl, rfl⟩ rfl rfl rfl rfl rfl TF.named3 Tryz.func3 TF.joined
    (of_decide_eq_true (by kernel_rfl)) (by unfold Func.isWrapper; first | (rw [if_pos (by decide +kernel)]; kernel_rfl) | (rw [if_neg (by decide +kernel)]; exact ⟨rfl, rfl⟩))
    (fun os started H enc _ => lifted os started H enc)
/-- THE TIED CARD -/
theorem topBytes_card : Rows.TopBytesCardSaid :=
  Claim7.holds_tied_plain_at .later [] [.data, .data, .data, .data, .pinned] true (true, "afe250588a6dc981ca84152c0c2ae2ccbe69f02346fb932d50207090f3d89c1f") false
    topBytes_row (fun _ h => by cases h) TF.wfText (fun _ h => by cases h) topBytes_row_tie rfl ⟨rfl, rfl⟩ TF.mainIs rfl
    (fun f fn hf hfn => by
      obtain rfl : f = 3 := Option.some.inj (TF.named3.symm.trans hf) |>.symm
      obtain rfl : fn = Tryz.f3 := (Option.some.inj (Tryz.func3.symm.trans hfn)).symm
      exact ⟨TF.looks, fun j t ht => by
        rw [Tryz.params3] at ht
        have hm : t ∈ [9, 22] := by simpa using Array.mem_of_getElem? ht
        have hall := TF.stand
        exact (show Tryz.prog.wantsStandIn t = false by simpa using List.all_eq_true.1 hall t hm)⟩)
    TF.goes3
#print axioms topBytes_card
end Go.Proofs.YtjiaoppefinljaaGreatDoor
