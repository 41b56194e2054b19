/- The program: functions without a body. -/
import Derived.Test.YtjiaoppefinljaaGreatDoorProg
import Derived.Test.YtjiaoppefinljaaGreatDoorKg
import Derived.Lib.Bytealg
import Derived.Lib.Builder
set_option linter.unusedVariables false
set_option linter.unusedSimpArgs false
set_option linter.unusedSectionVars false
namespace Go.Proofs.YtjiaoppefinljaaGreatDoor.Ab
open Go
set_option maxRecDepth 1000000
variable {gl : Nat → Option AV} {F : Nat → Prop} {w0 : World} {ρ ρ' : Rho} {σ σ' : St} {w w' : World}

theorem run_71 (args : Array Value) (w : World) : (callFunc 71 args).run Tryz.prog w = ((Extern.AbiNoEscape.same args).run Tryz.prog w).andThen fun v w' => .ok (.value v) w' :=
  run_callFunc_extern (fn := Tryz.prog.funcs[71]!) (by kernel_rfl) (by kernel_rfl) (by kernel_rfl) (by kernel_rfl) (by kernel_rfl) args w
theorem run_300 (args : Array Value) (w : World) : (callFunc 300 args).run Tryz.prog w = ((Extern.BytealgIndexByte.indexByte args).run Tryz.prog w).andThen fun v w' => .ok (.value v) w' :=
  run_callFunc_extern (fn := Tryz.prog.funcs[300]!) (by kernel_rfl) (by kernel_rfl) (by kernel_rfl) (by kernel_rfl) (by kernel_rfl) args w
theorem run_304 (args : Array Value) (w : World) : (callFunc 304 args).run Tryz.prog w = ((Extern.BytealgCount.count args).run Tryz.prog w).andThen fun v w' => .ok (.value v) w' :=
  run_callFunc_extern (fn := Tryz.prog.funcs[304]!) (by kernel_rfl) (by kernel_rfl) (by kernel_rfl) (by kernel_rfl) (by kernel_rfl) args w
theorem run_287 (args : Array Value) (w : World) : (callFunc 287 args).run Tryz.prog w = ((Extern.BytealgCompare.compare args).run Tryz.prog w).andThen fun v w' => .ok (.value v) w' :=
  run_callFunc_extern (fn := Tryz.prog.funcs[287]!) (by kernel_rfl) (by kernel_rfl) (by kernel_rfl) (by kernel_rfl) (by kernel_rfl) args w
theorem run_437 (args : Array Value) (w : World) : (callFunc 437 args).run Tryz.prog w = ((Extern.Atomic.update (Op.intArith .add) .i64 true args).run Tryz.prog w).andThen fun v w' => .ok (.value v) w' :=
  run_callFunc_extern (fn := Tryz.prog.funcs[437]!) (by kernel_rfl) (by kernel_rfl) (by kernel_rfl) (by kernel_rfl) (by kernel_rfl) args w
theorem run_211 (args : Array Value) (w : World) : (callFunc 211 args).run Tryz.prog w = ((Extern.BytealgMakeNoZero.makeNoZero (Tryz.prog.funcs[211]!).params #[((Tryz.prog.funcs[211]!).resultTypes)[0]!] args).run Tryz.prog w).andThen fun v w' => .ok (.value v) w' :=
  run_callFunc_extern (fn := Tryz.prog.funcs[211]!) (by kernel_rfl) (by kernel_rfl) (by kernel_rfl) (by kernel_rfl) (by kernel_rfl) args w

/-! ### Answers to what has no body -/
def memoId (a : List AV) (_ : St) : Option AV := match a with | [x] => some x | _ => none
theorem memoId_ok : MemoAt Tryz.prog gl F w0 71 memoId := by
  intro args us σ v ρ w h1 h2 h3
  unfold memoId at h1
  split at h1
  · cases h1
    cases h2 with
    | cons _ u _ _ h hn =>
      cases hn
      rw [run_71]
      exact ⟨ρ, h, h3, Ext.refl _ _⟩
  · cases h1
theorem u8_eq {a b : Nat} (ha : a < 256) (hb : b < 256) : (UInt8.ofNat a == UInt8.ofNat b) = Nat.beq a b := by
  rw [nbeq, Bool.eq_iff_iff]
  simp only [beq_iff_eq, decide_eq_true_eq]
  constructor
  · intro h
    have := congrArg UInt8.toNat h
    simp at this
    omega
  · intro h; rw [h]
theorem u8_lt {a b : Nat} (ha : a < 256) (hb : b < 256) : (UInt8.ofNat a < UInt8.ofNat b) ↔ a < b := by
  rw [UInt8.lt_iff_toNat_lt]
  simp
  rw [Nat.mod_eq_of_lt ha, Nat.mod_eq_of_lt hb]
def idxL (c : Nat) : List Nat → Int
  | [] => .negSucc 0
  | a :: l => match Nat.beq a c with
    | true => .ofNat 0
    | false => (match idxL c l with | .ofNat i => .ofNat (Nat.add i 1) | .negSucc i => .negSucc i)
def memoIdx (a : List AV) (_ : St) : Option AV :=
  match a with
  | [.str s, .int .u8 (.ofNat c)] => (match Nat.blt c 256 with | true => some (.int .i64 (idxL c s)) | false => none)
  | _ => none
def cntL (c : Nat) : List Nat → Nat
  | [] => 0
  | a :: l => match Nat.beq a c with | true => Nat.add (cntL c l) 1 | false => cntL c l
def memoCnt (a : List AV) (_ : St) : Option AV :=
  match a with
  | [.str s, .int .u8 (.ofNat c)] => (match Nat.blt c 256 with | true => some (.int .i64 (.ofNat (cntL c s))) | false => none)
  | _ => none
theorem cnt_eq {c : Nat} (hc : c < 256) : ∀ {s : List Nat}, (∀ x ∈ s, x < 256) → Lib.countByte (s.map UInt8.ofNat) (UInt8.ofNat c) = cntL c s
  | [], _ => rfl
  | a :: s, h => by
    have ih := cnt_eq hc (s := s) fun x hx => h x (List.mem_cons_of_mem _ hx)
    unfold Lib.countByte at ih ⊢
    unfold cntL
    rw [List.map_cons, List.count_cons, ih, u8_eq (h a (by simp)) hc]
    split <;> rename_i e <;> simp [e]
theorem memoCnt_ok : MemoAt Tryz.prog gl F w0 304 memoCnt := by
  intro args us σ v ρ w h1 h2 h3
  unfold memoCnt at h1
  split at h1
  · rename_i s c
    split at h1
    · rename_i hc
      rw [nblt] at hc
      have hc := of_decide_eq_true hc
      cases h1
      cases h2 with
      | cons _ u _ _ h hn =>
      cases hn with
      | cons _ u' _ _ h' hn =>
      cases hn
      cases h with
      | str _ hs =>
      cases h'
      rw [run_304, Lib.run_countString]
      have e : (Int.ofNat c).toNat.toUInt8 = UInt8.ofNat c := rfl
      have e2 : (bsN s).data.toList = s.map UInt8.ofNat := by simp [bsN]
      refine ⟨ρ, ?_, h3, Ext.refl _ _⟩
      rw [e, e2, cnt_eq hc hs]
      exact .int _ _
    · cases h1
  · cases h1
def cmpL : List Nat → List Nat → Int
  | [], [] => .ofNat 0
  | [], _ :: _ => .negSucc 0
  | _ :: _, [] => .ofNat 1
  | a :: x, b :: y => match Nat.blt a b with
    | true => .negSucc 0
    | false => (match Nat.blt b a with | true => .ofNat 1 | false => cmpL x y)
theorem cmp_eq : ∀ {s t : List Nat}, (∀ x ∈ s, x < 256) → (∀ x ∈ t, x < 256) → Lib.compareBytes (s.map UInt8.ofNat) (t.map UInt8.ofNat) = cmpL s t
  | [], [], _, _ => rfl
  | [], _ :: _, _, _ => rfl
  | _ :: _, [], _, _ => rfl
  | a :: s, b :: t, h1, h2 => by
    have ih := cmp_eq (s := s) (t := t) (fun x hx => h1 x (List.mem_cons_of_mem _ hx)) (fun x hx => h2 x (List.mem_cons_of_mem _ hx))
    have ha := h1 a (by simp)
    have hb := h2 b (by simp)
    simp only [List.map_cons, Lib.compareBytes, cmpL, u8_lt ha hb, u8_lt hb ha, nblt]
    by_cases e1 : a < b
    · simp only [e1, if_true, decide_true]; rfl
    · by_cases e2 : b < a
      · simp only [e1, e2, if_true, if_false, decide_true, decide_false]; rfl
      · simp only [e1, e2, if_false, decide_false]; exact ih
def memoCmp (a : List AV) (_ : St) : Option AV :=
  match a with
  | [.str s, .str t] => some (.int .i64 (cmpL s t))
  | _ => none
theorem memoCmp_ok : MemoAt Tryz.prog gl F w0 287 memoCmp := by
  intro args us σ v ρ w h1 h2 h3
  unfold memoCmp at h1
  split at h1
  · rename_i s t
    cases h1
    cases h2 with
    | cons _ u _ _ h hn =>
    cases hn with
    | cons _ u' _ _ h' hn =>
    cases hn
    cases h with
    | str _ hs =>
    cases h' with
    | str _ ht =>
    rw [run_287, Lib.run_compareString]
    have e2 : ∀ s, (bsN s).data.toList = s.map UInt8.ofNat := fun s => by simp [bsN]
    refine ⟨ρ, ?_, h3, Ext.refl _ _⟩
    rw [e2, e2, cmp_eq hs ht]
    exact .int _ _
  · cases h1
theorem idx_eq {c : Nat} (hc : c < 256) : ∀ {s : List Nat}, (∀ x ∈ s, x < 256) → Lib.indexByte (s.map UInt8.ofNat) (UInt8.ofNat c) = idxL c s ∧ (idxL c s = .negSucc 0 ∨ ∃ i, idxL c s = .ofNat i)
  | [], _ => ⟨rfl, .inl rfl⟩
  | a :: s, h => by
    obtain ⟨ih1, ih2⟩ := idx_eq hc (s := s) fun x hx => h x (List.mem_cons_of_mem _ hx)
    simp only [List.map_cons, Lib.indexByte, idxL, u8_eq (h a (by simp)) hc, ih1]
    cases Nat.beq a c with
    | true => exact ⟨rfl, .inr ⟨0, rfl⟩⟩
    | false =>
      rcases ih2 with e | ⟨i, e⟩
      · rw [e]; exact ⟨rfl, .inl rfl⟩
      · rw [e]
        refine ⟨?_, .inr ⟨i + 1, rfl⟩⟩
        have : ((Int.ofNat i) == -1) = false := by cases i <;> rfl
        simp only [this]
        rfl
theorem memoIdx_ok : MemoAt Tryz.prog gl F w0 300 memoIdx := by
  intro args us σ v ρ w h1 h2 h3
  unfold memoIdx at h1
  split at h1
  · rename_i s c
    split at h1
    · rename_i hc
      rw [nblt] at hc
      have hc := of_decide_eq_true hc
      cases h1
      cases h2 with
      | cons _ u _ _ h hn =>
      cases hn with
      | cons _ u' _ _ h' hn =>
      cases hn
      cases h with
      | str _ hs =>
      cases h'
      rw [run_300, run_indexByte_string, Lib.firstIdx_eq]
      have e : (Int.ofNat c).toNat.toUInt8 = UInt8.ofNat c := rfl
      have e2 : (bsN s).data.toList = s.map UInt8.ofNat := by simp [bsN]
      refine ⟨ρ, ?_, h3, Ext.refl _ _⟩
      rw [e, e2, (idx_eq hc hs).1]
      exact .int _ _
    · cases h1
  · cases h1

/-! ### What is given to a run -/
/-- the memory, as a list -/
def memOf : List (FuncId × (List AV → St → Option AV)) → FuncId → Option (List AV → St → Option AV)
  | [], _ => none
  | (g, m) :: l, f => match Nat.beq f g with | true => some m | false => memOf l f
theorem memOf_mem : ∀ {l : List (FuncId × (List AV → St → Option AV))} {f : FuncId} {m : List AV → St → Option AV}, memOf l f = some m → (f, m) ∈ l
  | [], _, _, h => by cases h
  | (g, m') :: l, f, m, h => by
    unfold memOf at h
    split at h
    · rename_i e
      cases h
      rw [Nat.eq_of_beq_eq_true e]
      exact List.mem_cons_self
    · exact List.mem_cons_of_mem _ (memOf_mem h)
noncomputable def envOf (gl : Nat → Option AV) (l : List (FuncId × (List AV → St → Option AV))) : Env := { P := Tryz.prog, gl, memo := memOf l, fns := fun f => cFn Tryz.prog gl f, addI := 437, noZ := 211, byteT := 5 }
theorem envOf_ok {l : List (FuncId × (List AV → St → Option AV))} (h : ∀ x ∈ l, MemoAt Tryz.prog gl F w0 x.1 x.2) : EnvOk Tryz.prog gl F w0 (envOf gl l) where
  prog := rfl
  fns := fun _ _ h => h
  memo := fun f m hm => h (f, m) (memOf_mem hm)
  addI := run_437
  noZ := ⟨_, _, by kernel_rfl, run_211⟩
/-- what has no body -/
def base : List (FuncId × (List AV → St → Option AV)) := [(71, memoId), (300, memoIdx), (304, memoCnt), (287, memoCmp)]
theorem base_ok : ∀ x ∈ base, MemoAt Tryz.prog gl F w0 x.1 x.2 := by
  intro x hx
  unfold base at hx
  simp only [List.mem_cons, List.not_mem_nil, or_false] at hx
  rcases hx with rfl | rfl | rfl | rfl
  · exact memoId_ok
  · exact memoIdx_ok
  · exact memoCnt_ok
  · exact memoCmp_ok
theorem mixed : Tryz.prog.follows .mixedOrders = true := by kernel_rfl
end Go.Proofs.YtjiaoppefinljaaGreatDoor.Ab

/- sha.right, whatever is turned. -/
namespace Go.Proofs.YtjiaoppefinljaaGreatDoor.Ab
open Go
set_option maxRecDepth 1000000
noncomputable def rotV (x c : Nat) : AV := bOr .u32 (wr .u32 (.ofNat x * .ofNat (Nat.pow 2 (32 - c)))) ((Int.ofNat x).fdiv (.ofNat (Nat.pow 2 c)))
noncomputable def E0 : Env := envOf (fun _ => none) base
theorem right2 (x : Nat) (σ : St) (k : AV → St → Bool) : callF E0 (exec E0 40) 452 [.int .u32 (.ofNat x), .int .i64 (.ofNat 2)] σ k = k (rotV x 2) σ := by kernel_rfl
theorem right13 (x : Nat) (σ : St) (k : AV → St → Bool) : callF E0 (exec E0 40) 452 [.int .u32 (.ofNat x), .int .i64 (.ofNat 13)] σ k = k (rotV x 13) σ := by kernel_rfl
theorem right22 (x : Nat) (σ : St) (k : AV → St → Bool) : callF E0 (exec E0 40) 452 [.int .u32 (.ofNat x), .int .i64 (.ofNat 22)] σ k = k (rotV x 22) σ := by kernel_rfl
theorem right6 (x : Nat) (σ : St) (k : AV → St → Bool) : callF E0 (exec E0 40) 452 [.int .u32 (.ofNat x), .int .i64 (.ofNat 6)] σ k = k (rotV x 6) σ := by kernel_rfl
theorem right11 (x : Nat) (σ : St) (k : AV → St → Bool) : callF E0 (exec E0 40) 452 [.int .u32 (.ofNat x), .int .i64 (.ofNat 11)] σ k = k (rotV x 11) σ := by kernel_rfl
theorem right25 (x : Nat) (σ : St) (k : AV → St → Bool) : callF E0 (exec E0 40) 452 [.int .u32 (.ofNat x), .int .i64 (.ofNat 25)] σ k = k (rotV x 25) σ := by kernel_rfl
theorem right7 (x : Nat) (σ : St) (k : AV → St → Bool) : callF E0 (exec E0 40) 452 [.int .u32 (.ofNat x), .int .i64 (.ofNat 7)] σ k = k (rotV x 7) σ := by kernel_rfl
theorem right18 (x : Nat) (σ : St) (k : AV → St → Bool) : callF E0 (exec E0 40) 452 [.int .u32 (.ofNat x), .int .i64 (.ofNat 18)] σ k = k (rotV x 18) σ := by kernel_rfl
theorem right17 (x : Nat) (σ : St) (k : AV → St → Bool) : callF E0 (exec E0 40) 452 [.int .u32 (.ofNat x), .int .i64 (.ofNat 17)] σ k = k (rotV x 17) σ := by kernel_rfl
theorem right19 (x : Nat) (σ : St) (k : AV → St → Bool) : callF E0 (exec E0 40) 452 [.int .u32 (.ofNat x), .int .i64 (.ofNat 19)] σ k = k (rotV x 19) σ := by kernel_rfl
def rotN (x c : Nat) : Nat := Nat.lor (Nat.mod (Nat.mul x (Nat.pow 2 (Nat.sub 32 c))) 4294967296) (Nat.div x (Nat.pow 2 c))
theorem rotV_eq {x c : Nat} (hx : x < 4294967296) : rotV x c = .int .u32 (.ofNat (rotN x c)) := by
  have h1 : wr .u32 (.ofNat x * .ofNat (Nat.pow 2 (32 - c))) = .ofNat ((x * 2 ^ (32 - c)) % 4294967296) := by
    rw [wr_spec]
    show IntKind.u32.wrap ((x * 2 ^ (32 - c) : Nat) : Int) = _
    generalize x * 2 ^ (32 - c) = m
    simp only [IntKind.wrap, IntKind.bits, IntKind.signed, Bool.false_and, Bool.false_eq_true, if_false]
    show (m : Int) % 4294967296 = ((m % 4294967296 : Nat) : Int)
    omega
  have h2 : (Int.ofNat x).fdiv (.ofNat (Nat.pow 2 c)) = .ofNat (x / 2 ^ c) := by
    show ((x : Int)).fdiv ((2 ^ c : Nat) : Int) = ((x / 2 ^ c : Nat) : Int)
    rw [Int.fdiv_eq_ediv_of_nonneg _ (Int.natCast_nonneg _)]
    exact (Int.natCast_ediv _ _).symm
  have h3 : x / 2 ^ c < 4294967296 := Nat.lt_of_le_of_lt (Nat.div_le_self _ _) hx
  have h4 : (x * 2 ^ (32 - c)) % 4294967296 < 4294967296 := Nat.mod_lt _ (by omega)
  unfold rotV rotN bOr
  rw [h1, h2]
  have t1 : tw .u32 (.ofNat ((x * 2 ^ (32 - c)) % 4294967296)) = (x * 2 ^ (32 - c)) % 4294967296 := Nat.mod_eq_of_lt h4
  have t2 : tw .u32 (.ofNat (x / 2 ^ c)) = x / 2 ^ c := Nat.mod_eq_of_lt h3
  rw [t1, t2]
  have h5 : (x * 2 ^ (32 - c)) % 4294967296 ||| x / 2 ^ c < 2 ^ 32 := Nat.or_lt_two_pow h4 h3
  have h6 : Nat.blt ((x * 2 ^ (32 - c)) % 4294967296 ||| x / 2 ^ c) 4294967296 = true := by rw [nblt]; exact decide_eq_true h5
  show AV.int .u32 (match Nat.blt ((x * 2 ^ (32 - c)) % 4294967296 ||| x / 2 ^ c) 4294967296 with | true => _ | false => _) = _
  rw [h6]
  rfl
def rots : List Nat := [2, 13, 22, 6, 11, 25, 7, 18, 17, 19]
def isIn (c : Nat) : List Nat → Bool
  | [] => false
  | a :: l => match Nat.beq c a with | true => true | false => isIn c l
theorem isIn_spec {c : Nat} : ∀ {l : List Nat}, isIn c l = true → c ∈ l
  | [], h => by cases h
  | a :: l, h => by
    unfold isIn at h
    split at h
    · rename_i e; rw [Nat.eq_of_beq_eq_true e]; exact List.mem_cons_self
    · exact List.mem_cons_of_mem _ (isIn_spec h)
def memoRot (a : List AV) (_ : St) : Option AV :=
  match a with
  | [.int .u32 (.ofNat x), .int .i64 (.ofNat c)] => (match Nat.blt x 4294967296 && isIn c rots with | true => some (.int .u32 (.ofNat (rotN x c))) | false => none)
  | _ => none
theorem E0_ok (F : Nat → Prop) (w0 : World) : EnvOk Tryz.prog (fun _ => none) F w0 E0 := envOf_ok base_ok
theorem isV_int (k : IntKind) (n : Int) (σ : St) : isV (.int k n) (.int k n) σ = true := by
  simp only [isV, clo, clo1, same, keq_spec, ieq_spec, decide_true]
variable {gl : Nat → Option AV} {F : Nat → Prop} {w0 : World}
theorem memoRot_ok : MemoAt Tryz.prog gl F w0 452 memoRot := by
  intro args us σ v ρ w h1 h2 h3
  unfold memoRot at h1
  split at h1
  · rename_i x c
    split at h1
    · rename_i hc
      cases h1
      simp only [Bool.and_eq_true, nblt, decide_eq_true_eq] at hc
      have hrun : callF E0 (exec E0 40) 452 [.int .u32 (.ofNat x), .int .i64 (.ofNat c)] ⟨.lf, 0⟩ (isV (.int .u32 (.ofNat (rotN x c)))) = true := by
        have hm := isIn_spec hc.2
        unfold rots at hm
        simp only [List.mem_cons, List.not_mem_nil, or_false] at hm
        rcases hm with rfl | rfl | rfl | rfl | rfl | rfl | rfl | rfl | rfl | rfl
        · rw [right2, rotV_eq hc.1]; exact isV_int _ _ _
        · rw [right13, rotV_eq hc.1]; exact isV_int _ _ _
        · rw [right22, rotV_eq hc.1]; exact isV_int _ _ _
        · rw [right6, rotV_eq hc.1]; exact isV_int _ _ _
        · rw [right11, rotV_eq hc.1]; exact isV_int _ _ _
        · rw [right25, rotV_eq hc.1]; exact isV_int _ _ _
        · rw [right7, rotV_eq hc.1]; exact isV_int _ _ _
        · rw [right18, rotV_eq hc.1]; exact isV_int _ _ _
        · rw [right17, rotV_eq hc.1]; exact isV_int _ _ _
        · rw [right19, rotV_eq hc.1]; exact isV_int _ _ _
      exact memo_of_run E0_ok mixed hrun (cloL_any (ρ := ρ) rfl h2) (hr_none _ _ w 0) h3
    · cases h1
  · cases h1
/-- what has no body, and rotations -/
noncomputable def E1 : Env := envOf (fun _ => none) ((452, memoRot) :: base)
theorem base1_ok : ∀ x ∈ (452, memoRot) :: base, MemoAt Tryz.prog gl F w0 x.1 x.2 := by
  intro x hx
  rcases List.mem_cons.1 hx with rfl | hx
  · exact memoRot_ok
  · exact base_ok x hx
theorem E1_ok (F : Nat → Prop) (w0 : World) : EnvOk Tryz.prog (fun _ => none) F w0 E1 := envOf_ok base1_ok
end Go.Proofs.YtjiaoppefinljaaGreatDoor.Ab
