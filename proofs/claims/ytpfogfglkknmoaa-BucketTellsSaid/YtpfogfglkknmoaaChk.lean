/- Check and the document's Check, of any rows. -/
import Derived.Test.YtpfogfglkknmoaaFew
import Derived.BigQuiet
namespace Go.Proofs.Ytpfogfglkknmoaa
open Go.RowKit
/-- a bucket that may stand behind a key -/
def okAt (last : ByteArray) (b : Bk) : Prop := kl last < kl b.key ∧ 0 ≤ b.left ∧ b.left < 4 ∧ 0 ≤ b.at_ ∧ b.at_ ≤ 1099511627776
def Good (l : List Bk) : Prop := (∀ k (h : k < l.length), okAt (lastKey l k) (l[k]'h)) ∧ l.length ≤ 24
/-- the answer -/
def AnsC (l : List Bk) (v : Value) : Prop := ∃ b : Bool, v = .bool b ∧ (b = true ↔ Good l)
theorem AnsC.yes {l : List Bk} (h : ∀ k (_ : k < l.length) (h : k < l.length), okAt (lastKey l k) (l[k]'h)) (h2 : l.length ≤ 24) : AnsC l (.bool true) := ⟨true, rfl, fun _ => ⟨fun k hk => h k hk hk, h2⟩, fun _ => rfl⟩
theorem AnsC.long {l : List Bk} (h2 : ¬ l.length ≤ 24) : AnsC l (.bool false) := ⟨false, rfl, ⟨(fun h => by cases h), fun h => absurd h.2 h2⟩⟩
theorem AnsC.bad {l : List Bk} {k : Nat} (hk : k < l.length) (h : ¬ okAt (lastKey l k) (l[k]'hk)) : AnsC l (.bool false) := ⟨false, rfl, ⟨(fun h => by cases h), fun h2 => absurd (h2.1 k hk) h⟩⟩
theorem AnsC.one {l : List Bk} {v1 v2 : Value} (h1 : AnsC l v1) (h2 : AnsC l v2) : ∃ b : Bool, v1 = .bool b ∧ v2 = .bool b := by
  obtain ⟨a, rfl, ha⟩ := h1
  obtain ⟨b, rfl, hb⟩ := h2
  refine ⟨a, rfl, ?_⟩
  have : a = true ↔ b = true := ha.trans hb.symm
  cases a <;> cases b <;> simp_all

theorem not_ok {last : ByteArray} {b : Bk} (h : ¬ okAt last b) : kl b.key = kl last ∨ (kl b.key ≠ kl last ∧ kl b.key < kl last) ∨ (kl last < kl b.key ∧ (b.left < 0 ∨ (0 ≤ b.left ∧ 4 ≤ b.left) ∨ (0 ≤ b.left ∧ b.left < 4 ∧ b.at_ < 0) ∨ (0 ≤ b.left ∧ b.left < 4 ∧ 0 ≤ b.at_ ∧ 1099511627776 < b.at_))) := by
  by_cases h1 : kl last < kl b.key
  · right; right
    refine ⟨h1, ?_⟩
    unfold okAt at h
    have : ¬ (0 ≤ b.left ∧ b.left < 4 ∧ 0 ≤ b.at_ ∧ b.at_ ≤ 1099511627776) := fun h2 => h ⟨h1, h2⟩
    omega
  · by_cases h2 : kl b.key = kl last
    · exact Or.inl h2
    · exact Or.inr (Or.inl ⟨h2, tri _ _ h1 (fun e => h2 e.symm)⟩)

set_option maxRecDepth 100000 in
set_option maxHeartbeats 4000000 in
theorem Check_gen (l : List Bk) (hlen : l.length ≤ 1000) (v : Value) (w : World) (hs : Sl v l w) :
    Calls Try.prog 20 #[v] w fun e w' => ∃ v', e = .returned v' ∧ AnsC l v' ∧ Below w.heap.size w w' := by
  obtain ⟨A, c, rfl, -, -, -, hr⟩ := hs
  have HR := Lib.hid hr
  clear hr
  go_enter Try.func20, Try.ntmps20
  go_wp2_with fail
  go_loopw [3, 5, 8] (fun v3 _ v8 wr => ∃ k : Nat, k ≤ l.length ∧ v8 = .int .i64 (k : Int) ∧ v3 = .string (lastKey l k) ∧ Hid (∀ j (_ : j < k) (h : j < l.length), okAt (lastKey l j) (l[j]'h)) ∧ Below w.heap.size w wr)
    (fun _ _ v8 _ => l.length - (intOf v8).toNat)
  case atStart => exact ⟨0, by omega, rfl, rfl, Lib.hid (fun j h => absurd h (by omega)), Below.refl _ _⟩
  case round =>
    obtain ⟨k, hk, rfl, rfl, HI, hb⟩ := hrel
    by_cases hlt : k < l.length
    · obtain ⟨g, o, rfl, hg, c0, c1, c2⟩ := (HR.out.below hb).at_ k hlt
      have hkz : (k : Int) < (l.length : Int) := by omega
      have hk0 : (0 : Int) ≤ (k : Int) := by omega
      have HSU := Lib.hid (lastKey_succ l k hlt)
      by_cases hok : okAt (lastKey l k) (l[k]'hlt)
      · have HN : Hid (∀ j (_ : j < k + 1) (h : j < l.length), okAt (lastKey l j) (l[j]'h)) := Lib.hid fun j hj h => by
          by_cases e : j = k
          · subst e; exact hok
          · exact HI.out j (by omega) h
        generalize l[k]'hlt = b at *
        generalize lastKey l k = last at *
        obtain ⟨o1, o2, o3, o4, o5⟩ := hok
        have z1 : decide (b.left < 0) = false := decide_eq_false (by omega)
        have z2 : decide (4 ≤ b.left) = false := decide_eq_false (by omega)
        have z3 : decide (b.at_ < 0) = false := decide_eq_false (by omega)
        have z4 : decide (1099511627776 < b.at_) = false := decide_eq_false (by omega)
        have z5 := key_nlt_dec b.key last (lt_asymm' o1)
        have z6 := key_ne_dec b.key last (fun e => by rw [e] at o1; exact lt_irrefl' _ o1)
        clear o1 o2 o3 o4 o5
        go_wp2_with fail
        go_roundw
        case rel => exact ⟨k + 1, by omega, by go_num, by rw [HSU.out], HN, hb.alloc hb.size _⟩
        case measure => simp [intOf]; omega
      · have HB := Lib.hid (AnsC.bad hlt hok)
        generalize l[k]'hlt = b at *
        generalize lastKey l k = last at *
        rcases not_ok hok with o1 | ⟨o1, o2⟩ | ⟨o1, o2 | o2 | o2 | o2⟩
        · have z6 := key_eq_dec b.key last o1
          have z5 := key_nlt_dec b.key last (by rw [o1]; exact lt_irrefl' _)
          clear o1 hok
          go_wp2_with fail
          go_ret
          exact ⟨_, rfl, HB.out, hb.alloc hb.size _⟩
        · have z6 := key_ne_dec b.key last o1
          have z5 := key_lt_dec b.key last o2
          clear o1 o2 hok
          go_wp2_with fail
          go_ret
          exact ⟨_, rfl, HB.out, hb.alloc hb.size _⟩
        all_goals
          have z5 := key_nlt_dec b.key last (lt_asymm' o1)
          have z6 := key_ne_dec b.key last (fun e => by rw [e] at o1; exact lt_irrefl' _ o1)
          clear o1 hok
        · have z1 : decide (b.left < 0) = true := decide_eq_true (by omega)
          clear o2
          go_wp2_with fail
          go_ret
          exact ⟨_, rfl, HB.out, hb.alloc hb.size _⟩
        · have z1 : decide (b.left < 0) = false := decide_eq_false (by omega)
          have z2 : decide (4 ≤ b.left) = true := decide_eq_true (by omega)
          clear o2
          go_wp2_with fail
          go_ret
          exact ⟨_, rfl, HB.out, hb.alloc hb.size _⟩
        · have z1 : decide (b.left < 0) = false := decide_eq_false (by omega)
          have z2 : decide (4 ≤ b.left) = false := decide_eq_false (by omega)
          have z3 : decide (b.at_ < 0) = true := decide_eq_true (by omega)
          clear o2
          go_wp2_with fail
          go_ret
          exact ⟨_, rfl, HB.out, hb.alloc hb.size _⟩
        · have z1 : decide (b.left < 0) = false := decide_eq_false (by omega)
          have z2 : decide (4 ≤ b.left) = false := decide_eq_false (by omega)
          have z3 : decide (b.at_ < 0) = false := decide_eq_false (by omega)
          have z4 : decide (1099511627776 < b.at_) = true := decide_eq_true (by omega)
          clear o2
          go_wp2_with fail
          go_ret
          exact ⟨_, rfl, HB.out, hb.alloc hb.size _⟩
    · obtain rfl : k = l.length := by omega
      have hll : ¬ (l.length : Int) < (l.length : Int) := by omega
      by_cases h24 : l.length ≤ 24
      · have HA := Lib.hid (AnsC.yes (fun j _ h => HI.out j h h) h24)
        have h24z : (l.length : Int) ≤ 24 := by omega
        clear h24
        go_wp2_with fail
        go_ret
        exact ⟨_, rfl, HA.out, hb⟩
      · have HA := Lib.hid (AnsC.long h24)
        have h24z : ¬ (l.length : Int) ≤ 24 := by omega
        have h24w : decide ((l.length : Int) ≤ 24) = false := decide_eq_false h24z
        clear h24
        go_wp2_with fail
        go_ret
        exact ⟨_, rfl, HA.out, hb⟩

theorem key_ne_empty (k : ByteArray) (h : kl k ≠ []) : k.toList.isEmpty = false := isEmpty_of k h
theorem key_empty (k : ByteArray) (h : kl k = []) : k.toList.isEmpty = true := by
  rw [Lib.toList_data, show k.data.toList = [] from h]; rfl
set_option maxRecDepth 100000 in
set_option maxHeartbeats 8000000 in
theorem rCheck_gen (l : List Bk) (hlen : l.length ≤ 1000) (v : Value) (w : World) (hs : Sl v l w) :
    Calls Try.prog 24 #[v] w fun e w' => ∃ v', e = .returned v' ∧ AnsC l v' ∧ Below w.heap.size w w' := by
  obtain ⟨A, c, rfl, -, -, -, hr⟩ := hs
  have HR := Lib.hid hr
  clear hr
  go_enter Try.func24, Try.ntmps24
  go_wp2_with fail
  go_loopw [3, 4] (fun v3 _ wr => ∃ k : Nat, k ≤ l.length ∧ v3 = .int .i64 (k : Int) ∧ Hid (∀ j (_ : j < k) (h : j < l.length), okAt (lastKey l j) (l[j]'h)) ∧ Below w.heap.size w wr)
    (fun v3 _ _ => l.length - (intOf v3).toNat)
  case atStart => exact ⟨0, by omega, rfl, Lib.hid (fun j h => absurd h (by omega)), Below.refl _ _⟩
  case round =>
    obtain ⟨k, hk, rfl, HI, hb⟩ := hrel
    by_cases hlt : k < l.length
    · obtain ⟨g, o, rfl, hg, c0, c1, c2⟩ := (HR.out.below hb).at_ k hlt
      have hkz : (k : Int) < (l.length : Int) := by omega
      have hk0 : (0 : Int) ≤ (k : Int) := by omega
      by_cases hk1 : 0 < k
      · have hkm : k - 1 < l.length := by omega
        obtain ⟨g', o', eg, hg', d0, _, _⟩ := (HR.out.below hb).at_ (k - 1) hkm
        simp only [Option.some.injEq, Addr.mk.injEq, and_true] at eg
        obtain ⟨rfl, rfl⟩ := eg
        have HLK : Hid (lastKey l k = (l[k - 1]'hkm).key) := Lib.hid (by unfold lastKey; rw [dif_pos ⟨hk1, by omega⟩])
        have y1 : decide ((0 : Int) < (k : Int)) = true := decide_eq_true (by omega)
        have y2 : ((k : Int) - 1).toNat = k - 1 := by omega
        have y3 : (0 : Int) ≤ (k : Int) - 1 := by omega
        have y4 : (k : Int) - 1 < (l.length : Int) := by omega
        clear hg'
        by_cases hok : okAt (lastKey l k) (l[k]'hlt)
        · have HN : Hid (∀ j (_ : j < k + 1) (h : j < l.length), okAt (lastKey l j) (l[j]'h)) := Lib.hid fun j hj h => by
            by_cases e : j = k
            · subst e; exact hok
            · exact HI.out j (by omega) h
          rw [HLK.out] at hok
          generalize l[k]'hlt = b at *
          generalize l[k - 1]'hkm = lb at *
          generalize lb.key = last at *
          obtain ⟨o1, o2, o3, o4, o5⟩ := hok
          have z0 := key_ne_empty b.key (fun e => by rw [e] at o1; exact List.not_lt_nil _ o1)
          have z5 := key_nlt_dec b.key last (lt_asymm' o1)
          have z5b := key_lt_dec last b.key o1
          have z6 := key_ne_dec last b.key (fun e => by rw [e] at o1; exact lt_irrefl' _ o1)
          have z1 : decide (b.left < 0) = false := decide_eq_false (by omega)
          have z2 : decide (4 ≤ b.left) = false := decide_eq_false (by omega)
          have z3 : decide (b.at_ < 0) = false := decide_eq_false (by omega)
          have z4 : decide (1099511627776 < b.at_) = false := decide_eq_false (by omega)
          clear o1 o2 o3 o4 o5
          go_wp2_with fail
          go_quiet (fail)
          go_wp2_with fail
          go_roundw
          case rel => exact ⟨k + 1, by omega, by go_num, HN, by first | exact below_drewN hb _ | exact below_drewN (hb.alloc hb.size _) _⟩
          case measure => simp [intOf]; omega
        · have HB := Lib.hid (AnsC.bad hlt hok)
          rw [HLK.out] at hok
          generalize l[k]'hlt = b at *
          generalize l[k - 1]'hkm = lb at *
          generalize lb.key = last at *
          rcases not_ok hok with o1 | ⟨o1, o2⟩ | ⟨o1, o2 | o2 | o2 | o2⟩
          · have z6 := key_eq_dec last b.key o1.symm
            have z5 := key_nlt_dec b.key last (by rw [o1]; exact lt_irrefl' _)
            have z5b := key_nlt_dec last b.key (by rw [o1]; exact lt_irrefl' _)
            by_cases he : kl b.key = []
            · have z0 := key_empty b.key he
              clear he
              clear o1 hok
              go_wp2_with fail
              go_quiet (fail)
              go_wp2_with fail
              go_ret
              exact ⟨_, rfl, HB.out, by first | exact below_drewN hb _ | exact below_drewN (hb.alloc hb.size _) _⟩
            · have z0 := key_ne_empty b.key he
              clear he
              clear o1 hok
              go_wp2_with fail
              go_quiet (fail)
              go_wp2_with fail
              go_ret
              exact ⟨_, rfl, HB.out, by first | exact below_drewN hb _ | exact below_drewN (hb.alloc hb.size _) _⟩
          · have z6 := key_ne_dec last b.key (fun e => o1 e.symm)
            have z5 := key_lt_dec b.key last o2
            have z5b := key_nlt_dec last b.key (lt_asymm' o2)
            by_cases he : kl b.key = []
            · have z0 := key_empty b.key he
              clear he
              clear o1 o2 hok
              go_wp2_with fail
              go_quiet (fail)
              go_wp2_with fail
              go_ret
              exact ⟨_, rfl, HB.out, by first | exact below_drewN hb _ | exact below_drewN (hb.alloc hb.size _) _⟩
            · have z0 := key_ne_empty b.key he
              clear he
              clear o1 o2 hok
              go_wp2_with fail
              go_quiet (fail)
              go_wp2_with fail
              go_ret
              exact ⟨_, rfl, HB.out, by first | exact below_drewN hb _ | exact below_drewN (hb.alloc hb.size _) _⟩
          · have z0 := key_ne_empty b.key (fun e => by rw [e] at o1; exact List.not_lt_nil _ o1)
            have z5 := key_nlt_dec b.key last (lt_asymm' o1)
            have z5b := key_lt_dec last b.key o1
            have z6 := key_ne_dec last b.key (fun e => by rw [e] at o1; exact lt_irrefl' _ o1)
            have z1 : decide (b.left < 0) = true := decide_eq_true (by omega)
            clear o1 o2 hok
            go_wp2_with fail
            go_quiet (fail)
            go_wp2_with fail
            go_ret
            exact ⟨_, rfl, HB.out, by first | exact below_drewN hb _ | exact below_drewN (hb.alloc hb.size _) _⟩
          · have z0 := key_ne_empty b.key (fun e => by rw [e] at o1; exact List.not_lt_nil _ o1)
            have z5 := key_nlt_dec b.key last (lt_asymm' o1)
            have z5b := key_lt_dec last b.key o1
            have z6 := key_ne_dec last b.key (fun e => by rw [e] at o1; exact lt_irrefl' _ o1)
            have z1 : decide (b.left < 0) = false := decide_eq_false (by omega)
            have z2 : decide (4 ≤ b.left) = true := decide_eq_true (by omega)
            clear o1 o2 hok
            go_wp2_with fail
            go_quiet (fail)
            go_wp2_with fail
            go_ret
            exact ⟨_, rfl, HB.out, by first | exact below_drewN hb _ | exact below_drewN (hb.alloc hb.size _) _⟩
          · have z0 := key_ne_empty b.key (fun e => by rw [e] at o1; exact List.not_lt_nil _ o1)
            have z5 := key_nlt_dec b.key last (lt_asymm' o1)
            have z5b := key_lt_dec last b.key o1
            have z6 := key_ne_dec last b.key (fun e => by rw [e] at o1; exact lt_irrefl' _ o1)
            have z1 : decide (b.left < 0) = false := decide_eq_false (by omega)
            have z2 : decide (4 ≤ b.left) = false := decide_eq_false (by omega)
            have z3 : decide (b.at_ < 0) = true := decide_eq_true (by omega)
            clear o1 o2 hok
            go_wp2_with fail
            go_quiet (fail)
            go_wp2_with fail
            go_ret
            exact ⟨_, rfl, HB.out, by first | exact below_drewN hb _ | exact below_drewN (hb.alloc hb.size _) _⟩
          · have z0 := key_ne_empty b.key (fun e => by rw [e] at o1; exact List.not_lt_nil _ o1)
            have z5 := key_nlt_dec b.key last (lt_asymm' o1)
            have z5b := key_lt_dec last b.key o1
            have z6 := key_ne_dec last b.key (fun e => by rw [e] at o1; exact lt_irrefl' _ o1)
            have z1 : decide (b.left < 0) = false := decide_eq_false (by omega)
            have z2 : decide (4 ≤ b.left) = false := decide_eq_false (by omega)
            have z3 : decide (b.at_ < 0) = false := decide_eq_false (by omega)
            have z4 : decide (1099511627776 < b.at_) = true := decide_eq_true (by omega)
            clear o1 o2 hok
            go_wp2_with fail
            go_quiet (fail)
            go_wp2_with fail
            go_ret
            exact ⟨_, rfl, HB.out, by first | exact below_drewN hb _ | exact below_drewN (hb.alloc hb.size _) _⟩
      · have HLK : Hid (lastKey l k = ⟨#[]⟩) := Lib.hid (by unfold lastKey; rw [dif_neg (by omega)])
        have y1 : decide ((0 : Int) < (k : Int)) = false := decide_eq_false (by omega)
        have y2 : ¬ ((0 : Int) < (k : Int)) := by omega
        by_cases hok : okAt (lastKey l k) (l[k]'hlt)
        · have HN : Hid (∀ j (_ : j < k + 1) (h : j < l.length), okAt (lastKey l j) (l[j]'h)) := Lib.hid fun j hj h => by
            by_cases e : j = k
            · subst e; exact hok
            · exact HI.out j (by omega) h
          rw [HLK.out] at hok
          generalize l[k]'hlt = b at *
          obtain ⟨o1, o2, o3, o4, o5⟩ := hok
          have z0 := key_ne_empty b.key (fun e => by rw [e] at o1; exact List.not_lt_nil _ o1)
          have z1 : decide (b.left < 0) = false := decide_eq_false (by omega)
          have z2 : decide (4 ≤ b.left) = false := decide_eq_false (by omega)
          have z3 : decide (b.at_ < 0) = false := decide_eq_false (by omega)
          have z4 : decide (1099511627776 < b.at_) = false := decide_eq_false (by omega)
          clear o1 o2 o3 o4 o5
          go_wp2_with fail
          go_quiet (fail)
          go_wp2_with fail
          go_roundw
          case rel => exact ⟨k + 1, by omega, by go_num, HN, by first | exact below_drewN hb _ | exact below_drewN (hb.alloc hb.size _) _⟩
          case measure => simp [intOf]; omega
        · have HB := Lib.hid (AnsC.bad hlt hok)
          rw [HLK.out] at hok
          generalize l[k]'hlt = b at *
          rcases not_ok hok with o1 | ⟨o1, o2⟩ | ⟨o1, o2 | o2 | o2 | o2⟩
          · have z0 := key_empty b.key o1
            clear o1 hok
            go_wp2_with fail
            go_quiet (fail)
            go_wp2_with fail
            go_ret
            exact ⟨_, rfl, HB.out, by first | exact below_drewN hb _ | exact below_drewN (hb.alloc hb.size _) _⟩
          · exact absurd o2 (List.not_lt_nil _)
          · have z0 := key_ne_empty b.key (fun e => by rw [e] at o1; exact List.not_lt_nil _ o1)
            have z1 : decide (b.left < 0) = true := decide_eq_true (by omega)
            clear o1 o2 hok
            go_wp2_with fail
            go_quiet (fail)
            go_wp2_with fail
            go_ret
            exact ⟨_, rfl, HB.out, by first | exact below_drewN hb _ | exact below_drewN (hb.alloc hb.size _) _⟩
          · have z0 := key_ne_empty b.key (fun e => by rw [e] at o1; exact List.not_lt_nil _ o1)
            have z1 : decide (b.left < 0) = false := decide_eq_false (by omega)
            have z2 : decide (4 ≤ b.left) = true := decide_eq_true (by omega)
            clear o1 o2 hok
            go_wp2_with fail
            go_quiet (fail)
            go_wp2_with fail
            go_ret
            exact ⟨_, rfl, HB.out, by first | exact below_drewN hb _ | exact below_drewN (hb.alloc hb.size _) _⟩
          · have z0 := key_ne_empty b.key (fun e => by rw [e] at o1; exact List.not_lt_nil _ o1)
            have z1 : decide (b.left < 0) = false := decide_eq_false (by omega)
            have z2 : decide (4 ≤ b.left) = false := decide_eq_false (by omega)
            have z3 : decide (b.at_ < 0) = true := decide_eq_true (by omega)
            clear o1 o2 hok
            go_wp2_with fail
            go_quiet (fail)
            go_wp2_with fail
            go_ret
            exact ⟨_, rfl, HB.out, by first | exact below_drewN hb _ | exact below_drewN (hb.alloc hb.size _) _⟩
          · have z0 := key_ne_empty b.key (fun e => by rw [e] at o1; exact List.not_lt_nil _ o1)
            have z1 : decide (b.left < 0) = false := decide_eq_false (by omega)
            have z2 : decide (4 ≤ b.left) = false := decide_eq_false (by omega)
            have z3 : decide (b.at_ < 0) = false := decide_eq_false (by omega)
            have z4 : decide (1099511627776 < b.at_) = true := decide_eq_true (by omega)
            clear o1 o2 hok
            go_wp2_with fail
            go_quiet (fail)
            go_wp2_with fail
            go_ret
            exact ⟨_, rfl, HB.out, by first | exact below_drewN hb _ | exact below_drewN (hb.alloc hb.size _) _⟩
    · obtain rfl : k = l.length := by omega
      have hll : ¬ (l.length : Int) < (l.length : Int) := by omega
      by_cases h24 : l.length ≤ 24
      · have HA := Lib.hid (AnsC.yes (fun j _ h => HI.out j h h) h24)
        have h24z : (l.length : Int) ≤ 24 := by omega
        clear h24
        go_wp2_with fail
        go_ret
        exact ⟨_, rfl, HA.out, hb⟩
      · have HA := Lib.hid (AnsC.long h24)
        have h24z : ¬ (l.length : Int) ≤ 24 := by omega
        have h24w : decide ((l.length : Int) ≤ 24) = false := decide_eq_false h24z
        clear h24
        go_wp2_with fail
        go_ret
        exact ⟨_, rfl, HA.out, hb⟩
end Go.Proofs.Ytpfogfglkknmoaa
