import Derived.Test.YtnfiihdebonadaaGreatDoorZK4
import Derived.Lib.DecodeN
import Derived.Laws.RangeAny
set_option linter.unusedSimpArgs false
set_option linter.unusedVariables false
set_option linter.unusedSectionVars false
namespace Go.Proofs.YtnfiihdebonadaaGreatDoor.Abs
open Go.RowKit

/-! strings.ContainsAny(k, "=\x00\n"), whatever k. -/
theorem get_bang (s : List UInt8) (i : Nat) : (⟨s.toArray⟩ : ByteArray).get! i = s.getD i 0 := by
  simp [ByteArray.get!, List.getD_eq_getElem?_getD]
  rfl
theorem dec_fact (s : List UInt8) (pos : Nat) (h : pos < s.length) (d : Nat × Nat) (hd : Utf8.decode ⟨s.toArray⟩ pos = d) : d.1 ≤ 2147483647 ∧ 1 ≤ d.2 ∧ pos + d.2 ≤ s.length ∧
    ((d.1 = (s.getD pos 0).toNat ∧ d.2 = 1 ∧ (s.getD pos 0).toNat < 128) ∨ (128 ≤ d.1 ∧ ∀ j, pos ≤ j → j < pos + d.2 → 128 ≤ (s.getD j 0).toNat)) := by
  have h1 : d.1 ≤ 2147483647 := by rw [← hd]; exact decode_le _ _
  have hs : (⟨s.toArray⟩ : ByteArray).size = s.length := by simp [ByteArray.size]
  rw [Lib.decode_at, get_bang, get_bang, get_bang, get_bang, hs] at hd
  have g0 := (s.getD pos 0).toNat_lt
  have g1 := (s.getD (pos + 1) 0).toNat_lt
  have g2 := (s.getD (pos + 2) 0).toNat_lt
  have g3 := (s.getD (pos + 3) 0).toNat_lt
  have key : ∀ (b0 b1 b2 b3 n : Nat), 0 < n → b0 < 256 → b1 < 256 → b2 < 256 → b3 < 256 → ∀ d, Lib.decodeN n b0 b1 b2 b3 = d → 1 ≤ d.2 ∧ d.2 ≤ n ∧ d.2 ≤ 4 ∧ ((d.1 = b0 ∧ d.2 = 1 ∧ b0 < 128) ∨ (128 ≤ d.1 ∧ 128 ≤ b0 ∧ (2 ≤ d.2 → 128 ≤ b1) ∧ (3 ≤ d.2 → 128 ≤ b2) ∧ (4 ≤ d.2 → 128 ≤ b3))) := by
    intro b0 b1 b2 b3 n hn k0 k1 k2 k3 d hd
    unfold Lib.decodeN at hd
    repeat' (split at hd)
    all_goals (subst hd; dsimp only; omega)
  obtain ⟨r1, r2, r3, r4⟩ := key _ _ _ _ (s.length - pos) (by omega) g0 g1 g2 g3 d hd
  refine ⟨h1, r1, by omega, ?_⟩
  rcases r4 with r | ⟨q1, q2, q3, q4, q5⟩
  · exact .inl r
  · refine .inr ⟨q1, fun j hj1 hj2 => ?_⟩
    rcases Nat.lt_or_ge j (pos + 1) with h | h
    · have : j = pos := by omega
      rw [this]; exact q2
    rcases Nat.lt_or_ge j (pos + 2) with h | h
    · have : j = pos + 1 := by omega
      rw [this]; exact q3 (by omega)
    rcases Nat.lt_or_ge j (pos + 3) with h | h
    · have : j = pos + 2 := by omega
      rw [this]; exact q4 (by omega)
    · have : j = pos + 3 := by omega
      rw [this]; exact q5 (by omega)

theorem enc_fact (r : Int) (h0 : 128 ≤ r) : ∃ a l, (Utf8.encode r).data.toList = a :: l ∧ 1 ≤ l.length ∧ l.length ≤ 3 ∧ ∀ i, i < l.length → 128 ≤ (l.getD i 0).toNat := by
  have hb : ∀ n : Nat, n < 64 → 128 ≤ (UInt8.ofNat (128 + n)).toNat := fun n hn => by
    show 128 ≤ (128 + n) % 256
    omega
  have hm : ∀ n : Nat, n % 64 < 64 := fun n => Nat.mod_lt _ (by omega)
  unfold Utf8.encode
  generalize hc : (if Utf8.valid r = true then r.toNat else Utf8.runeError) = c
  have hc1 : 128 ≤ c := by
    rw [← hc]; split
    · omega
    · decide
  dsimp only
  rw [if_neg (by omega)]
  split
  · refine ⟨_, _, rfl, by simp, by simp, fun i hi => ?_⟩
    match i with
    | 0 => exact hb _ (hm _)
    | i + 1 => exact absurd hi (by show ¬ (i + 1 < 1); omega)
  · split
    · refine ⟨_, _, rfl, by simp, by simp, fun i hi => ?_⟩
      match i with
      | 0 => exact hb _ (hm _)
      | 1 => exact hb _ (hm _)
      | i + 2 => exact absurd hi (by show ¬ (i + 2 < 2); omega)
    · refine ⟨_, _, rfl, by simp, by simp, fun i hi => ?_⟩
      match i with
      | 0 => exact hb _ (hm _)
      | 1 => exact hb _ (hm _)
      | 2 => exact hb _ (hm _)
      | i + 3 => exact absurd hi (by show ¬ (i + 3 < 3); omega)

theorem lib_IndexByte {W0 : World} {S : St} {s : List UInt8} {c : Int} : Gives Pr W0 Fn.strings_IndexByte [.str s, .int .u8 c] S (.int .i64 (Lib.indexByte s c.toNat.toUInt8)) := by
  refine Gives.of_calls fun ρ w vs hS hA => ?_
  obtain ⟨x, y, rfl, hx, hy⟩ := arel_2 hA
  rw [vrel_str hx, vrel_int hy]
  exact ⟨_, .int _ _, Tryz.strings_IndexByte ⟨s.toArray⟩ c w⟩
theorem lib_ValidRune {W0 : World} {S : St} {r : Int} : Gives Pr W0 Fn.unicode_utf8_ValidRune [.int .i32 r] S (.bool (Lib.validRune r)) := by
  refine Gives.of_calls fun ρ w vs hS hA => ?_
  obtain ⟨x, rfl, hx⟩ := arel_1 hA
  rw [vrel_int hx]
  exact ⟨_, .bool _, Tryz.utf8_ValidRune r w⟩
end Go.Proofs.YtnfiihdebonadaaGreatDoor.Abs
namespace Go.Proofs.YtnfiihdebonadaaGreatDoor.Abs
open Go.RowKit
def runeIn (r : Int) : Int := if r = 61 then 0 else if r = 0 then 1 else if r = 10 then 2 else -1
theorem runeIn_ascii {r : Int} (h0 : 0 ≤ r) (h1 : r < 128) : Lib.indexByte [61, 0, 10] r.toNat.toUInt8 = runeIn r := by
  obtain ⟨n, rfl⟩ := Int.eq_ofNat_of_zero_le h0
  have hn : n < 128 := by omega
  have key : ∀ n : Nat, n < 128 → Lib.indexByte [61, 0, 10] ((n : Nat) : Int).toNat.toUInt8 = runeIn (n : Int) := by decide +kernel
  exact key n hn
theorem ib_high {c : UInt8} (hc : 128 ≤ c.toNat) : Lib.indexByte [10] c = -1 ∧ Lib.indexByte [] c = -1 := by
  have h1 : ((10 : UInt8) == c) = false := by rw [beq_eq_false_iff_ne]; rintro rfl; exact absurd hc (by decide)
  constructor <;> simp [Lib.indexByte, h1]
theorem dec0 : Utf8.decode ⟨[61, 0, 10].toArray⟩ 0 = (61, 1) := by decide +kernel
theorem dec1 : Utf8.decode ⟨[61, 0, 10].toArray⟩ 1 = (0, 1) := by decide +kernel
theorem dec2 : Utf8.decode ⟨[61, 0, 10].toArray⟩ 2 = (10, 1) := by decide +kernel
set_option maxHeartbeats 4000000 in
theorem index_rune {W0 : World} {S : St} {r : Int} (h0 : 0 ≤ r) (h1 : r ≤ 2147483647) : Gives Pr W0 Fn.strings_IndexRune [.str [61, 0, 10], .int .i32 r] S (.int .i64 (runeIn r)) := by
  refine in_strings_IndexRune (by simp) ?_
  by_cases hr : r < 128
  · have hw : IntKind.u8.wrap r = r := by
      simp only [IntKind.wrap, IntKind.bits, IntKind.signed]
      simp; omega
    (repeat' (first | (with_reducible refine @Br_pos _ _ _ _ _ _ (by first | assumption | omega) ?_) | (with_reducible refine @Br_neg _ _ _ _ _ _ (by first | assumption | omega) ?_) | (with_reducible refine @Br_dec _ _ _ _ _ _ (fun _ => ?_) (fun _ => ?_)) | (with_reducible refine Br_bt (by assumption) ?_) | (with_reducible refine Br_bf (by assumption) ?_) | (with_reducible refine Br_b (fun _ => ?_) (fun _ => ?_)) | (with_reducible refine IfK_pos (by first | assumption | omega) ?_) | (with_reducible refine IfK_neg (by first | assumption | omega) ?_) | (with_reducible refine IfK_bf (by assumption) ?_) | (with_reducible refine IfK_dec (fun _ => ?_) (fun _ => ?_)) | (with_reducible refine And.intro ?_ ?_) | (refine (lib_IndexByte).go ?_) | simp (maxSteps := 10000000) (disch := ((try simp only [len_pushv, len_put, len_putB, List.length_take, List.length_drop, List.length_append, List.length_map, List.length_replicate, List.length_set, List.length_cons, List.length_nil, true_and, and_true]); first | done | omega | (repeat' (first | exact St.le.refl _ | assumption | refine le_pushv ?_ | refine le_put ?_ (by first | omega | (simp only [len_pushv, len_put]; omega)))))) only [W, Gives, pinsAfter, ↓reduceIte, Nat.reduceEqDiff, Nat.reduceAdd, Nat.reduceMul, Nat.reduceSub, ne_eq, Int.reduceEq, Int.reduceNeg, Int.reduceToNat, Int.reduceAdd, Int.reduceSub, Int.reduceMul, Int.reduceDiv, Int.reduceMod, Int.reduceLT, Int.reduceLE, Nat.reduceLeDiff, Nat.reduceBEq, Nat.reduceLT, code_strings_IndexRune, code_strings_IndexRune_k0, code_strings_IndexRune_l0, code_strings_IndexRune_k1, code_strings_IndexRune_k2, code_strings_IndexRune_t0, code_strings_IndexRune_k3, code_strings_IndexRune_k4, code_strings_IndexRune_l1, code_strings_IndexRune_k5, code_strings_IndexRune_k6, code_strings_IndexRune_k7, code_strings_IndexRune_l2, code_strings_IndexRune_k8, code_strings_IndexRune_k9, code_strings_IndexRune_l3, code_strings_IndexRune_k10, code_strings_IndexRune_t1, code_strings_IndexRune_k11, code_strings_IndexRune_k12, code_strings_IndexRune_l4, code_strings_IndexRune_t2, code_strings_IndexRune_t3, code_strings_IndexRune_k13, code_strings_IndexRune_k14, code_strings_IndexRune_t4, code_strings_IndexRune_t5, code_strings_IndexRune_t6, code_strings_IndexRune_t7, hw]))
    rw [runeIn_ascii h0 hr]
    exact ret_same rfl ⟨rfl, rfl⟩
  have hm : runeIn r = -1 := by unfold runeIn; rw [if_neg (by omega), if_neg (by omega), if_neg (by omega)]
  rw [hm]
  by_cases he : r = 65533
  · (repeat' (first | (with_reducible refine @Br_pos _ _ _ _ _ _ (by first | assumption | omega) ?_) | (with_reducible refine @Br_neg _ _ _ _ _ _ (by first | assumption | omega) ?_) | (with_reducible refine @Br_dec _ _ _ _ _ _ (fun _ => ?_) (fun _ => ?_)) | (with_reducible refine Br_bt (by assumption) ?_) | (with_reducible refine Br_bf (by assumption) ?_) | (with_reducible refine Br_b (fun _ => ?_) (fun _ => ?_)) | (with_reducible refine IfK_pos (by first | assumption | omega) ?_) | (with_reducible refine IfK_neg (by first | assumption | omega) ?_) | (with_reducible refine IfK_bf (by assumption) ?_) | (with_reducible refine IfK_dec (fun _ => ?_) (fun _ => ?_)) | (with_reducible refine And.intro ?_ ?_) | simp (maxSteps := 10000000) (disch := ((try simp only [len_pushv, len_put, len_putB, List.length_take, List.length_drop, List.length_append, List.length_map, List.length_replicate, List.length_set, List.length_cons, List.length_nil, true_and, and_true]); first | done | omega | (repeat' (first | exact St.le.refl _ | assumption | refine le_pushv ?_ | refine le_put ?_ (by first | omega | (simp only [len_pushv, len_put]; omega)))))) only [W, Gives, pinsAfter, ↓reduceIte, Nat.reduceEqDiff, Nat.reduceAdd, Nat.reduceMul, Nat.reduceSub, ne_eq, Int.reduceEq, Int.reduceNeg, Int.reduceToNat, Int.reduceAdd, Int.reduceSub, Int.reduceMul, Int.reduceDiv, Int.reduceMod, Int.reduceLT, Int.reduceLE, Nat.reduceLeDiff, Nat.reduceBEq, Nat.reduceLT, code_strings_IndexRune, code_strings_IndexRune_k0, code_strings_IndexRune_l0, code_strings_IndexRune_k1, code_strings_IndexRune_k2, code_strings_IndexRune_t0, code_strings_IndexRune_k3, code_strings_IndexRune_k4, code_strings_IndexRune_l1, code_strings_IndexRune_k5, code_strings_IndexRune_k6, code_strings_IndexRune_k7, code_strings_IndexRune_l2, code_strings_IndexRune_k8, code_strings_IndexRune_k9, code_strings_IndexRune_l3, code_strings_IndexRune_k10, code_strings_IndexRune_t1, code_strings_IndexRune_k11, code_strings_IndexRune_k12, code_strings_IndexRune_l4, code_strings_IndexRune_t2, code_strings_IndexRune_t3, code_strings_IndexRune_k13, code_strings_IndexRune_k14, code_strings_IndexRune_t4, code_strings_IndexRune_t5, code_strings_IndexRune_t6, code_strings_IndexRune_t7]))
    refine awp_rounds 4 ?_
    (repeat' (first | (with_reducible refine @Br_pos _ _ _ _ _ _ (by first | assumption | omega) ?_) | (with_reducible refine @Br_neg _ _ _ _ _ _ (by first | assumption | omega) ?_) | (with_reducible refine @Br_dec _ _ _ _ _ _ (fun _ => ?_) (fun _ => ?_)) | (with_reducible refine Br_bt (by assumption) ?_) | (with_reducible refine Br_bf (by assumption) ?_) | (with_reducible refine Br_b (fun _ => ?_) (fun _ => ?_)) | (with_reducible refine IfK_pos (by first | assumption | omega) ?_) | (with_reducible refine IfK_neg (by first | assumption | omega) ?_) | (with_reducible refine IfK_bf (by assumption) ?_) | (with_reducible refine IfK_dec (fun _ => ?_) (fun _ => ?_)) | (with_reducible refine And.intro ?_ ?_) | simp (maxSteps := 10000000) (disch := ((try simp only [len_pushv, len_put, len_putB, List.length_take, List.length_drop, List.length_append, List.length_map, List.length_replicate, List.length_set, List.length_cons, List.length_nil, true_and, and_true]); first | done | omega | (repeat' (first | exact St.le.refl _ | assumption | refine le_pushv ?_ | refine le_put ?_ (by first | omega | (simp only [len_pushv, len_put]; omega)))))) only [W, Gives, pinsAfter, ↓reduceIte, Nat.reduceEqDiff, Nat.reduceAdd, Nat.reduceMul, Nat.reduceSub, ne_eq, Int.reduceEq, Int.reduceNeg, Int.reduceToNat, Int.reduceAdd, Int.reduceSub, Int.reduceMul, Int.reduceDiv, Int.reduceMod, Int.reduceLT, Int.reduceLE, Nat.reduceLeDiff, Nat.reduceBEq, Nat.reduceLT, code_strings_IndexRune, code_strings_IndexRune_k0, code_strings_IndexRune_l0, code_strings_IndexRune_k1, code_strings_IndexRune_k2, code_strings_IndexRune_t0, code_strings_IndexRune_k3, code_strings_IndexRune_k4, code_strings_IndexRune_l1, code_strings_IndexRune_k5, code_strings_IndexRune_k6, code_strings_IndexRune_k7, code_strings_IndexRune_l2, code_strings_IndexRune_k8, code_strings_IndexRune_k9, code_strings_IndexRune_l3, code_strings_IndexRune_k10, code_strings_IndexRune_t1, code_strings_IndexRune_k11, code_strings_IndexRune_k12, code_strings_IndexRune_l4, code_strings_IndexRune_t2, code_strings_IndexRune_t3, code_strings_IndexRune_k13, code_strings_IndexRune_k14, code_strings_IndexRune_t4, code_strings_IndexRune_t5, code_strings_IndexRune_t6, code_strings_IndexRune_t7, dec0, dec1, dec2]))
    exact ret_x (by repeat' (first | exact St.le.refl _ | assumption | refine le_pushv ?_ | refine le_put ?_ (by first | omega | (simp only [len_pushv, len_put]; omega)) | refine le_trunc ?_ (by first | omega | (simp only [len_pushv, len_put]; omega)))) rfl ⟨rfl, rfl⟩
  · obtain ⟨a, l, e1, e2, e3, e4⟩ := enc_fact r (by omega)
    have z1 : ([61, 0, 10] : List UInt8).getD 1 0 = 0 := rfl
    have z2 : ([61, 0, 10] : List UInt8).getD 2 0 = 10 := rfl
    have t0 : (0 : UInt8).toNat = 0 := rfl
    have t10 : (10 : UInt8).toNat = 10 := rfl
    have k2 : ((2 : Nat) : Int) = 2 := rfl
    have k3 : ((3 : Nat) : Int) = 3 := rfl
    have k4 : ((4 : Nat) : Int) = 4 := rfl
    have q0 : ((0 : Nat) : Int) = 0 := rfl
    have q10 : ((10 : Nat) : Int) = 10 := rfl
    have p2 : List.drop 2 ([61, 0, 10] : List UInt8) = [10] := rfl
    have p3 : List.drop 3 ([61, 0, 10] : List UInt8) = [] := rfl
    match l, e2, e3, e4 with
    | [b], _, _, e4 =>
      have hb : 128 ≤ b.toNat := e4 0 (by simp)
      have gb : [a, b].getD 1 0 = b := rfl
      have ub : b.toNat.toUInt8 = b := by simp
      have ib := (ib_high hb).1
      (repeat' (first | (with_reducible refine @Br_pos _ _ _ _ _ _ (by first | assumption | omega) ?_) | (with_reducible refine @Br_neg _ _ _ _ _ _ (by first | assumption | omega) ?_) | (with_reducible refine @Br_dec _ _ _ _ _ _ (fun _ => ?_) (fun _ => ?_)) | (with_reducible refine Br_bt (by assumption) ?_) | (with_reducible refine Br_bf (by assumption) ?_) | (with_reducible refine Br_b (fun _ => ?_) (fun _ => ?_)) | (with_reducible refine IfK_pos (by first | assumption | omega) ?_) | (with_reducible refine IfK_neg (by first | assumption | omega) ?_) | (with_reducible refine IfK_bf (by assumption) ?_) | (with_reducible refine IfK_dec (fun _ => ?_) (fun _ => ?_)) | (with_reducible refine And.intro ?_ ?_) | (refine (lib_ValidRune).go ?_) | simp (maxSteps := 10000000) (disch := ((try simp only [len_pushv, len_put, len_putB, List.length_take, List.length_drop, List.length_append, List.length_map, List.length_replicate, List.length_set, List.length_cons, List.length_nil, true_and, and_true]); first | done | omega | (repeat' (first | exact St.le.refl _ | assumption | refine le_pushv ?_ | refine le_put ?_ (by first | omega | (simp only [len_pushv, len_put]; omega)))))) only [W, Gives, pinsAfter, ↓reduceIte, Nat.reduceEqDiff, Nat.reduceAdd, Nat.reduceMul, Nat.reduceSub, ne_eq, Int.reduceEq, Int.reduceNeg, Int.reduceToNat, Int.reduceAdd, Int.reduceSub, Int.reduceMul, Int.reduceDiv, Int.reduceMod, Int.reduceLT, Int.reduceLE, Nat.reduceLeDiff, Nat.reduceBEq, Nat.reduceLT, code_strings_IndexRune, code_strings_IndexRune_k0, code_strings_IndexRune_l0, code_strings_IndexRune_k1, code_strings_IndexRune_k2, code_strings_IndexRune_t0, code_strings_IndexRune_k3, code_strings_IndexRune_k4, code_strings_IndexRune_l1, code_strings_IndexRune_k5, code_strings_IndexRune_k6, code_strings_IndexRune_k7, code_strings_IndexRune_l2, code_strings_IndexRune_k8, code_strings_IndexRune_k9, code_strings_IndexRune_l3, code_strings_IndexRune_k10, code_strings_IndexRune_t1, code_strings_IndexRune_k11, code_strings_IndexRune_k12, code_strings_IndexRune_l4, code_strings_IndexRune_t2, code_strings_IndexRune_t3, code_strings_IndexRune_k13, code_strings_IndexRune_k14, code_strings_IndexRune_t4, code_strings_IndexRune_t5, code_strings_IndexRune_t6, code_strings_IndexRune_t7, e1]))
      all_goals first | exact ret_same rfl ⟨rfl, rfl⟩ | skip
      refine awp_rounds 2 ?_
      (repeat' (first | (with_reducible refine @Br_pos _ _ _ _ _ _ (by first | assumption | omega) ?_) | (with_reducible refine @Br_neg _ _ _ _ _ _ (by first | assumption | omega) ?_) | (with_reducible refine @Br_dec _ _ _ _ _ _ (fun _ => ?_) (fun _ => ?_)) | (with_reducible refine Br_bt (by assumption) ?_) | (with_reducible refine Br_bf (by assumption) ?_) | (with_reducible refine Br_b (fun _ => ?_) (fun _ => ?_)) | (with_reducible refine IfK_pos (by first | assumption | omega) ?_) | (with_reducible refine IfK_neg (by first | assumption | omega) ?_) | (with_reducible refine IfK_bf (by assumption) ?_) | (with_reducible refine IfK_dec (fun _ => ?_) (fun _ => ?_)) | (with_reducible refine And.intro ?_ ?_) | (refine (lib_IndexByte).go ?_) | simp (maxSteps := 10000000) (disch := ((try simp only [len_pushv, len_put, len_putB, List.length_take, List.length_drop, List.length_append, List.length_map, List.length_replicate, List.length_set, List.length_cons, List.length_nil, true_and, and_true]); first | done | omega | (repeat' (first | exact St.le.refl _ | assumption | refine le_pushv ?_ | refine le_put ?_ (by first | omega | (simp only [len_pushv, len_put]; omega)))))) only [W, Gives, pinsAfter, ↓reduceIte, Nat.reduceEqDiff, Nat.reduceAdd, Nat.reduceMul, Nat.reduceSub, ne_eq, Int.reduceEq, Int.reduceNeg, Int.reduceToNat, Int.reduceAdd, Int.reduceSub, Int.reduceMul, Int.reduceDiv, Int.reduceMod, Int.reduceLT, Int.reduceLE, Nat.reduceLeDiff, Nat.reduceBEq, Nat.reduceLT, code_strings_IndexRune, code_strings_IndexRune_k0, code_strings_IndexRune_l0, code_strings_IndexRune_k1, code_strings_IndexRune_k2, code_strings_IndexRune_t0, code_strings_IndexRune_k3, code_strings_IndexRune_k4, code_strings_IndexRune_l1, code_strings_IndexRune_k5, code_strings_IndexRune_k6, code_strings_IndexRune_k7, code_strings_IndexRune_l2, code_strings_IndexRune_k8, code_strings_IndexRune_k9, code_strings_IndexRune_l3, code_strings_IndexRune_k10, code_strings_IndexRune_t1, code_strings_IndexRune_k11, code_strings_IndexRune_k12, code_strings_IndexRune_l4, code_strings_IndexRune_t2, code_strings_IndexRune_t3, code_strings_IndexRune_k13, code_strings_IndexRune_k14, code_strings_IndexRune_t4, code_strings_IndexRune_t5, code_strings_IndexRune_t6, code_strings_IndexRune_t7, e1, z1, t0, k2, q0, p2, gb, ub, ib]))
      all_goals exact ret_same rfl ⟨rfl, rfl⟩
    | [b, c], _, _, e4 =>
      have hb : 128 ≤ c.toNat := e4 1 (by simp)
      have gb : [a, b, c].getD 2 0 = c := rfl
      have ub : c.toNat.toUInt8 = c := by simp
      have ib := (ib_high hb).2
      (repeat' (first | (with_reducible refine @Br_pos _ _ _ _ _ _ (by first | assumption | omega) ?_) | (with_reducible refine @Br_neg _ _ _ _ _ _ (by first | assumption | omega) ?_) | (with_reducible refine @Br_dec _ _ _ _ _ _ (fun _ => ?_) (fun _ => ?_)) | (with_reducible refine Br_bt (by assumption) ?_) | (with_reducible refine Br_bf (by assumption) ?_) | (with_reducible refine Br_b (fun _ => ?_) (fun _ => ?_)) | (with_reducible refine IfK_pos (by first | assumption | omega) ?_) | (with_reducible refine IfK_neg (by first | assumption | omega) ?_) | (with_reducible refine IfK_bf (by assumption) ?_) | (with_reducible refine IfK_dec (fun _ => ?_) (fun _ => ?_)) | (with_reducible refine And.intro ?_ ?_) | (refine (lib_ValidRune).go ?_) | simp (maxSteps := 10000000) (disch := ((try simp only [len_pushv, len_put, len_putB, List.length_take, List.length_drop, List.length_append, List.length_map, List.length_replicate, List.length_set, List.length_cons, List.length_nil, true_and, and_true]); first | done | omega | (repeat' (first | exact St.le.refl _ | assumption | refine le_pushv ?_ | refine le_put ?_ (by first | omega | (simp only [len_pushv, len_put]; omega)))))) only [W, Gives, pinsAfter, ↓reduceIte, Nat.reduceEqDiff, Nat.reduceAdd, Nat.reduceMul, Nat.reduceSub, ne_eq, Int.reduceEq, Int.reduceNeg, Int.reduceToNat, Int.reduceAdd, Int.reduceSub, Int.reduceMul, Int.reduceDiv, Int.reduceMod, Int.reduceLT, Int.reduceLE, Nat.reduceLeDiff, Nat.reduceBEq, Nat.reduceLT, code_strings_IndexRune, code_strings_IndexRune_k0, code_strings_IndexRune_l0, code_strings_IndexRune_k1, code_strings_IndexRune_k2, code_strings_IndexRune_t0, code_strings_IndexRune_k3, code_strings_IndexRune_k4, code_strings_IndexRune_l1, code_strings_IndexRune_k5, code_strings_IndexRune_k6, code_strings_IndexRune_k7, code_strings_IndexRune_l2, code_strings_IndexRune_k8, code_strings_IndexRune_k9, code_strings_IndexRune_l3, code_strings_IndexRune_k10, code_strings_IndexRune_t1, code_strings_IndexRune_k11, code_strings_IndexRune_k12, code_strings_IndexRune_l4, code_strings_IndexRune_t2, code_strings_IndexRune_t3, code_strings_IndexRune_k13, code_strings_IndexRune_k14, code_strings_IndexRune_t4, code_strings_IndexRune_t5, code_strings_IndexRune_t6, code_strings_IndexRune_t7, e1]))
      all_goals first | exact ret_same rfl ⟨rfl, rfl⟩ | skip
      refine awp_rounds 2 ?_
      (repeat' (first | (with_reducible refine @Br_pos _ _ _ _ _ _ (by first | assumption | omega) ?_) | (with_reducible refine @Br_neg _ _ _ _ _ _ (by first | assumption | omega) ?_) | (with_reducible refine @Br_dec _ _ _ _ _ _ (fun _ => ?_) (fun _ => ?_)) | (with_reducible refine Br_bt (by assumption) ?_) | (with_reducible refine Br_bf (by assumption) ?_) | (with_reducible refine Br_b (fun _ => ?_) (fun _ => ?_)) | (with_reducible refine IfK_pos (by first | assumption | omega) ?_) | (with_reducible refine IfK_neg (by first | assumption | omega) ?_) | (with_reducible refine IfK_bf (by assumption) ?_) | (with_reducible refine IfK_dec (fun _ => ?_) (fun _ => ?_)) | (with_reducible refine And.intro ?_ ?_) | (refine (lib_IndexByte).go ?_) | simp (maxSteps := 10000000) (disch := ((try simp only [len_pushv, len_put, len_putB, List.length_take, List.length_drop, List.length_append, List.length_map, List.length_replicate, List.length_set, List.length_cons, List.length_nil, true_and, and_true]); first | done | omega | (repeat' (first | exact St.le.refl _ | assumption | refine le_pushv ?_ | refine le_put ?_ (by first | omega | (simp only [len_pushv, len_put]; omega)))))) only [W, Gives, pinsAfter, ↓reduceIte, Nat.reduceEqDiff, Nat.reduceAdd, Nat.reduceMul, Nat.reduceSub, ne_eq, Int.reduceEq, Int.reduceNeg, Int.reduceToNat, Int.reduceAdd, Int.reduceSub, Int.reduceMul, Int.reduceDiv, Int.reduceMod, Int.reduceLT, Int.reduceLE, Nat.reduceLeDiff, Nat.reduceBEq, Nat.reduceLT, code_strings_IndexRune, code_strings_IndexRune_k0, code_strings_IndexRune_l0, code_strings_IndexRune_k1, code_strings_IndexRune_k2, code_strings_IndexRune_t0, code_strings_IndexRune_k3, code_strings_IndexRune_k4, code_strings_IndexRune_l1, code_strings_IndexRune_k5, code_strings_IndexRune_k6, code_strings_IndexRune_k7, code_strings_IndexRune_l2, code_strings_IndexRune_k8, code_strings_IndexRune_k9, code_strings_IndexRune_l3, code_strings_IndexRune_k10, code_strings_IndexRune_t1, code_strings_IndexRune_k11, code_strings_IndexRune_k12, code_strings_IndexRune_l4, code_strings_IndexRune_t2, code_strings_IndexRune_t3, code_strings_IndexRune_k13, code_strings_IndexRune_k14, code_strings_IndexRune_t4, code_strings_IndexRune_t5, code_strings_IndexRune_t6, code_strings_IndexRune_t7, e1, z2, t10, k3, q10, p3, gb, ub, ib]))
      all_goals exact ret_same rfl ⟨rfl, rfl⟩
    | [b, c, d], _, _, e4 =>
      (repeat' (first | (with_reducible refine @Br_pos _ _ _ _ _ _ (by first | assumption | omega) ?_) | (with_reducible refine @Br_neg _ _ _ _ _ _ (by first | assumption | omega) ?_) | (with_reducible refine @Br_dec _ _ _ _ _ _ (fun _ => ?_) (fun _ => ?_)) | (with_reducible refine Br_bt (by assumption) ?_) | (with_reducible refine Br_bf (by assumption) ?_) | (with_reducible refine Br_b (fun _ => ?_) (fun _ => ?_)) | (with_reducible refine IfK_pos (by first | assumption | omega) ?_) | (with_reducible refine IfK_neg (by first | assumption | omega) ?_) | (with_reducible refine IfK_bf (by assumption) ?_) | (with_reducible refine IfK_dec (fun _ => ?_) (fun _ => ?_)) | (with_reducible refine And.intro ?_ ?_) | (refine (lib_ValidRune).go ?_) | simp (maxSteps := 10000000) (disch := ((try simp only [len_pushv, len_put, len_putB, List.length_take, List.length_drop, List.length_append, List.length_map, List.length_replicate, List.length_set, List.length_cons, List.length_nil, true_and, and_true]); first | done | omega | (repeat' (first | exact St.le.refl _ | assumption | refine le_pushv ?_ | refine le_put ?_ (by first | omega | (simp only [len_pushv, len_put]; omega)))))) only [W, Gives, pinsAfter, ↓reduceIte, Nat.reduceEqDiff, Nat.reduceAdd, Nat.reduceMul, Nat.reduceSub, ne_eq, Int.reduceEq, Int.reduceNeg, Int.reduceToNat, Int.reduceAdd, Int.reduceSub, Int.reduceMul, Int.reduceDiv, Int.reduceMod, Int.reduceLT, Int.reduceLE, Nat.reduceLeDiff, Nat.reduceBEq, Nat.reduceLT, code_strings_IndexRune, code_strings_IndexRune_k0, code_strings_IndexRune_l0, code_strings_IndexRune_k1, code_strings_IndexRune_k2, code_strings_IndexRune_t0, code_strings_IndexRune_k3, code_strings_IndexRune_k4, code_strings_IndexRune_l1, code_strings_IndexRune_k5, code_strings_IndexRune_k6, code_strings_IndexRune_k7, code_strings_IndexRune_l2, code_strings_IndexRune_k8, code_strings_IndexRune_k9, code_strings_IndexRune_l3, code_strings_IndexRune_k10, code_strings_IndexRune_t1, code_strings_IndexRune_k11, code_strings_IndexRune_k12, code_strings_IndexRune_l4, code_strings_IndexRune_t2, code_strings_IndexRune_t3, code_strings_IndexRune_k13, code_strings_IndexRune_k14, code_strings_IndexRune_t4, code_strings_IndexRune_t5, code_strings_IndexRune_t6, code_strings_IndexRune_t7, e1]))
      all_goals first | exact ret_same rfl ⟨rfl, rfl⟩ | skip
      refine awp_rounds 2 ?_
      (repeat' (first | (with_reducible refine @Br_pos _ _ _ _ _ _ (by first | assumption | omega) ?_) | (with_reducible refine @Br_neg _ _ _ _ _ _ (by first | assumption | omega) ?_) | (with_reducible refine @Br_dec _ _ _ _ _ _ (fun _ => ?_) (fun _ => ?_)) | (with_reducible refine Br_bt (by assumption) ?_) | (with_reducible refine Br_bf (by assumption) ?_) | (with_reducible refine Br_b (fun _ => ?_) (fun _ => ?_)) | (with_reducible refine IfK_pos (by first | assumption | omega) ?_) | (with_reducible refine IfK_neg (by first | assumption | omega) ?_) | (with_reducible refine IfK_bf (by assumption) ?_) | (with_reducible refine IfK_dec (fun _ => ?_) (fun _ => ?_)) | (with_reducible refine And.intro ?_ ?_) | (refine (lib_IndexByte).go ?_) | simp (maxSteps := 10000000) (disch := ((try simp only [len_pushv, len_put, len_putB, List.length_take, List.length_drop, List.length_append, List.length_map, List.length_replicate, List.length_set, List.length_cons, List.length_nil, true_and, and_true]); first | done | omega | (repeat' (first | exact St.le.refl _ | assumption | refine le_pushv ?_ | refine le_put ?_ (by first | omega | (simp only [len_pushv, len_put]; omega)))))) only [W, Gives, pinsAfter, ↓reduceIte, Nat.reduceEqDiff, Nat.reduceAdd, Nat.reduceMul, Nat.reduceSub, ne_eq, Int.reduceEq, Int.reduceNeg, Int.reduceToNat, Int.reduceAdd, Int.reduceSub, Int.reduceMul, Int.reduceDiv, Int.reduceMod, Int.reduceLT, Int.reduceLE, Nat.reduceLeDiff, Nat.reduceBEq, Nat.reduceLT, code_strings_IndexRune, code_strings_IndexRune_k0, code_strings_IndexRune_l0, code_strings_IndexRune_k1, code_strings_IndexRune_k2, code_strings_IndexRune_t0, code_strings_IndexRune_k3, code_strings_IndexRune_k4, code_strings_IndexRune_l1, code_strings_IndexRune_k5, code_strings_IndexRune_k6, code_strings_IndexRune_k7, code_strings_IndexRune_l2, code_strings_IndexRune_k8, code_strings_IndexRune_k9, code_strings_IndexRune_l3, code_strings_IndexRune_k10, code_strings_IndexRune_t1, code_strings_IndexRune_k11, code_strings_IndexRune_k12, code_strings_IndexRune_l4, code_strings_IndexRune_t2, code_strings_IndexRune_t3, code_strings_IndexRune_k13, code_strings_IndexRune_k14, code_strings_IndexRune_t4, code_strings_IndexRune_t5, code_strings_IndexRune_t6, code_strings_IndexRune_t7, e1, k4]))
      all_goals exact ret_same rfl ⟨rfl, rfl⟩
end Go.Proofs.YtnfiihdebonadaaGreatDoor.Abs
namespace Go.Proofs.YtnfiihdebonadaaGreatDoor.Abs
open Go.RowKit
def badB (b : UInt8) : Bool := b == 61 || b == 0 || b == 10
theorem runeIn_bad (b : UInt8) : decide (0 ≤ runeIn b.toNat) = badB b := by
  have key : ∀ n : Nat, n < 256 → decide (0 ≤ runeIn (n : Int)) = badB (UInt8.ofNat n) := by decide +kernel
  have := key b.toNat b.toNat_lt
  rw [this]; simp
theorem high_bad {b : UInt8} (h : 128 ≤ b.toNat) : badB b = false := by
  rw [← runeIn_bad]
  unfold runeIn
  rw [if_neg (by omega), if_neg (by omega), if_neg (by omega)]
  rfl
theorem any_no {s : List UInt8} (h : ∀ j, j < s.length → badB (s.getD j 0) = false) : s.any badB = false := by
  rw [List.any_eq_false]
  intro b hb
  obtain ⟨i, hi, rfl⟩ := List.getElem_of_mem hb
  have := h i hi
  simpa [List.getD_eq_getElem?_getD, hi] using this
theorem any_yes {s : List UInt8} {j : Nat} (hj : j < s.length) (h : badB (s.getD j 0) = true) : s.any badB = true := by
  rw [List.any_eq_true]
  refine ⟨s.getD j 0, ?_, h⟩
  simp [List.getD_eq_getElem?_getD, hj]
theorem lib_use {W0 : World} {S : St} {n : Nat} : Gives Pr W0 Fn.strings_shouldUseASCIISet [.int .i64 n] S (.bool (decide ((8 : Int) < n))) := by
  refine in_strings_shouldUseASCIISet (by simp) ?_
  (repeat' (first | (with_reducible refine @Br_pos _ _ _ _ _ _ (by first | assumption | omega) ?_) | (with_reducible refine @Br_neg _ _ _ _ _ _ (by first | assumption | omega) ?_) | (with_reducible refine @Br_dec _ _ _ _ _ _ (fun _ => ?_) (fun _ => ?_)) | (with_reducible refine Br_bt (by assumption) ?_) | (with_reducible refine Br_bf (by assumption) ?_) | (with_reducible refine Br_b (fun _ => ?_) (fun _ => ?_)) | (with_reducible refine IfK_pos (by first | assumption | omega) ?_) | (with_reducible refine IfK_neg (by first | assumption | omega) ?_) | (with_reducible refine IfK_bf (by assumption) ?_) | (with_reducible refine IfK_dec (fun _ => ?_) (fun _ => ?_)) | (with_reducible refine And.intro ?_ ?_) | simp (maxSteps := 10000000) (disch := ((try simp only [len_pushv, len_put, len_putB, List.length_take, List.length_drop, List.length_append, List.length_map, List.length_replicate, List.length_set, List.length_cons, List.length_nil, true_and, and_true]); first | done | omega | (repeat' (first | exact St.le.refl _ | assumption | refine le_pushv ?_ | refine le_put ?_ (by first | omega | (simp only [len_pushv, len_put]; omega)))))) only [W, Gives, pinsAfter, ↓reduceIte, Nat.reduceEqDiff, Nat.reduceAdd, Nat.reduceMul, Nat.reduceSub, ne_eq, Int.reduceEq, Int.reduceNeg, Int.reduceToNat, Int.reduceAdd, Int.reduceSub, Int.reduceMul, Int.reduceDiv, Int.reduceMod, Int.reduceLT, Int.reduceLE, Nat.reduceLeDiff, Nat.reduceBEq, Nat.reduceLT, code_strings_shouldUseASCIISet]))
  exact ret_same rfl ⟨rfl, rfl⟩
set_option maxHeartbeats 4000000 in
theorem index_any_short {W0 : World} {S : St} {s : List UInt8} (hs : s.length ≤ 8) : CallsA Pr W0 Fn.strings_IndexAny [.str s, .str [61, 0, 10]] S fun r S' => S' = S ∧ ∃ n : Int, r = .int .i64 n ∧ decide (0 ≤ n) = s.any badB := by
  refine in_strings_IndexAny (by simp) ?_
  have hne : ¬ (([61, 0, 10] : List UInt8) = []) := by simp
  (repeat' (first | (with_reducible refine @Br_pos _ _ _ _ _ _ (by first | assumption | omega) ?_) | (with_reducible refine @Br_neg _ _ _ _ _ _ (by first | assumption | omega) ?_) | (with_reducible refine @Br_dec _ _ _ _ _ _ (fun _ => ?_) (fun _ => ?_)) | (with_reducible refine Br_bt (by assumption) ?_) | (with_reducible refine Br_bf (by assumption) ?_) | (with_reducible refine Br_b (fun _ => ?_) (fun _ => ?_)) | (with_reducible refine IfK_pos (by first | assumption | omega) ?_) | (with_reducible refine IfK_neg (by first | assumption | omega) ?_) | (with_reducible refine IfK_bf (by assumption) ?_) | (with_reducible refine IfK_dec (fun _ => ?_) (fun _ => ?_)) | (with_reducible refine And.intro ?_ ?_) | (refine (lib_use).go ?_) | simp (maxSteps := 10000000) (disch := ((try simp only [len_pushv, len_put, len_putB, List.length_take, List.length_drop, List.length_append, List.length_map, List.length_replicate, List.length_set, List.length_cons, List.length_nil, true_and, and_true]); first | done | omega | (repeat' (first | exact St.le.refl _ | assumption | refine le_pushv ?_ | refine le_put ?_ (by first | omega | (simp only [len_pushv, len_put]; omega)))))) only [W, Gives, pinsAfter, ↓reduceIte, Nat.reduceEqDiff, Nat.reduceAdd, Nat.reduceMul, Nat.reduceSub, ne_eq, Int.reduceEq, Int.reduceNeg, Int.reduceToNat, Int.reduceAdd, Int.reduceSub, Int.reduceMul, Int.reduceDiv, Int.reduceMod, Int.reduceLT, Int.reduceLE, Nat.reduceLeDiff, Nat.reduceBEq, Nat.reduceLT, code_strings_IndexAny, code_strings_IndexAny_k0, code_strings_IndexAny_k1, code_strings_IndexAny_k2, code_strings_IndexAny_l0, code_strings_IndexAny_k3, code_strings_IndexAny_t0, code_strings_IndexAny_k4, code_strings_IndexAny_k5, code_strings_IndexAny_k6, code_strings_IndexAny_k7, code_strings_IndexAny_k8]))
  refine awp_loop (α := Nat) (fun pos e S' => S' = S.pushv 0 (.siter s pos) ∧ e 0 = .str s ∧ e 1 = .str [61, 0, 10] ∧ e 45 = .ptr S.len 0 0 ∧ pos ≤ s.length ∧ ∀ j, j < pos → badB (s.getD j 0) = false) (fun pos => s.length - pos) 0 ⟨rfl, by simp (maxSteps := 10000000) (disch := ((try simp only [len_pushv, len_put, len_putB, List.length_take, List.length_drop, List.length_append, List.length_map, List.length_replicate, List.length_set, List.length_cons, List.length_nil, true_and, and_true]); first | done | omega | (repeat' (first | exact St.le.refl _ | assumption | refine le_pushv ?_ | refine le_put ?_ (by first | omega | (simp only [len_pushv, len_put]; omega)))))) only [W, Gives, pinsAfter, ↓reduceIte, Nat.reduceEqDiff, Nat.reduceAdd, Nat.reduceMul, Nat.reduceSub, ne_eq, Int.reduceEq, Int.reduceNeg, Int.reduceToNat, Int.reduceAdd, Int.reduceSub, Int.reduceMul, Int.reduceDiv, Int.reduceMod, Int.reduceLT, Int.reduceLE, Nat.reduceLeDiff, Nat.reduceBEq, Nat.reduceLT], by simp (maxSteps := 10000000) (disch := ((try simp only [len_pushv, len_put, len_putB, List.length_take, List.length_drop, List.length_append, List.length_map, List.length_replicate, List.length_set, List.length_cons, List.length_nil, true_and, and_true]); first | done | omega | (repeat' (first | exact St.le.refl _ | assumption | refine le_pushv ?_ | refine le_put ?_ (by first | omega | (simp only [len_pushv, len_put]; omega)))))) only [W, Gives, pinsAfter, ↓reduceIte, Nat.reduceEqDiff, Nat.reduceAdd, Nat.reduceMul, Nat.reduceSub, ne_eq, Int.reduceEq, Int.reduceNeg, Int.reduceToNat, Int.reduceAdd, Int.reduceSub, Int.reduceMul, Int.reduceDiv, Int.reduceMod, Int.reduceLT, Int.reduceLE, Nat.reduceLeDiff, Nat.reduceBEq, Nat.reduceLT], by simp (maxSteps := 10000000) (disch := ((try simp only [len_pushv, len_put, len_putB, List.length_take, List.length_drop, List.length_append, List.length_map, List.length_replicate, List.length_set, List.length_cons, List.length_nil, true_and, and_true]); first | done | omega | (repeat' (first | exact St.le.refl _ | assumption | refine le_pushv ?_ | refine le_put ?_ (by first | omega | (simp only [len_pushv, len_put]; omega)))))) only [W, Gives, pinsAfter, ↓reduceIte, Nat.reduceEqDiff, Nat.reduceAdd, Nat.reduceMul, Nat.reduceSub, ne_eq, Int.reduceEq, Int.reduceNeg, Int.reduceToNat, Int.reduceAdd, Int.reduceSub, Int.reduceMul, Int.reduceDiv, Int.reduceMod, Int.reduceLT, Int.reduceLE, Nat.reduceLeDiff, Nat.reduceBEq, Nat.reduceLT], by omega, fun j hj => absurd hj (by omega)⟩ ?_
  rintro pos e S' ⟨rfl, he0, he1, he45, hp, hno⟩
  by_cases hlt : pos < s.length
  · generalize hd : Utf8.decode ⟨s.toArray⟩ pos = d
    obtain ⟨d1, d2, d3, d4⟩ := dec_fact s pos hlt d hd
    have hri : (decide (0 ≤ runeIn d.1) = badB (s.getD pos 0)) ∧ ((0 ≤ runeIn d.1) → badB (s.getD pos 0) = true) ∧ (¬ (0 ≤ runeIn d.1) → ∀ j, j < pos + d.2 → badB (s.getD j 0) = false) := by
      rcases d4 with ⟨q1, q2, q3⟩ | ⟨q1, q2⟩
      · have e1 : decide (0 ≤ runeIn d.1) = badB (s.getD pos 0) := by rw [q1]; exact runeIn_bad _
        refine ⟨e1, fun h => by rw [← e1]; simp [h], fun h j hj => ?_⟩
        rcases Nat.lt_or_ge j pos with h' | h'
        · exact hno j h'
        · have : j = pos := by omega
          rw [this, ← e1]; simp [h]
      · have e2 := high_bad (q2 pos (by omega) (by omega))
        have e3 : runeIn d.1 = -1 := by unfold runeIn; rw [if_neg (by omega), if_neg (by omega), if_neg (by omega)]
        refine ⟨by rw [e2, e3]; rfl, fun h => by rw [e3] at h; omega, fun h j hj => ?_⟩
        rcases Nat.lt_or_ge j pos with h' | h'
        · exact hno j h'
        · exact high_bad (q2 j h' hj)
    have hir := @index_rune W0 (S.pushv 0 (.siter s (pos + d.2))) d.1 (by omega) (by omega)
    generalize runeIn d.1 = m at hri hir
    (repeat' (first | (with_reducible refine @Br_pos _ _ _ _ _ _ (by first | assumption | omega) ?_) | (with_reducible refine @Br_neg _ _ _ _ _ _ (by first | assumption | omega) ?_) | (with_reducible refine @Br_dec _ _ _ _ _ _ (fun _ => ?_) (fun _ => ?_)) | (with_reducible refine Br_bt (by assumption) ?_) | (with_reducible refine Br_bf (by assumption) ?_) | (with_reducible refine Br_b (fun _ => ?_) (fun _ => ?_)) | (with_reducible refine IfK_pos (by first | assumption | omega) ?_) | (with_reducible refine IfK_neg (by first | assumption | omega) ?_) | (with_reducible refine IfK_bf (by assumption) ?_) | (with_reducible refine IfK_dec (fun _ => ?_) (fun _ => ?_)) | (with_reducible refine And.intro ?_ ?_) | (refine hir.go ?_) | simp (maxSteps := 10000000) (disch := ((try simp only [len_pushv, len_put, len_putB, List.length_take, List.length_drop, List.length_append, List.length_map, List.length_replicate, List.length_set, List.length_cons, List.length_nil, true_and, and_true]); first | done | omega | (repeat' (first | exact St.le.refl _ | assumption | refine le_pushv ?_ | refine le_put ?_ (by first | omega | (simp only [len_pushv, len_put]; omega)))))) only [W, Gives, pinsAfter, ↓reduceIte, Nat.reduceEqDiff, Nat.reduceAdd, Nat.reduceMul, Nat.reduceSub, ne_eq, Int.reduceEq, Int.reduceNeg, Int.reduceToNat, Int.reduceAdd, Int.reduceSub, Int.reduceMul, Int.reduceDiv, Int.reduceMod, Int.reduceLT, Int.reduceLE, Nat.reduceLeDiff, Nat.reduceBEq, Nat.reduceLT, code_strings_IndexAny, code_strings_IndexAny_k0, code_strings_IndexAny_k1, code_strings_IndexAny_k2, code_strings_IndexAny_l0, code_strings_IndexAny_k3, code_strings_IndexAny_t0, code_strings_IndexAny_k4, code_strings_IndexAny_l1, code_strings_IndexAny_k5, code_strings_IndexAny_k6, code_strings_IndexAny_k7, code_strings_IndexAny_k8, he0, he1, he45, hd]))
    · rename_i hm
      have := any_yes hlt (hri.2.1 hm)
      exact ret_x (by repeat' (first | exact St.le.refl _ | assumption | refine le_pushv ?_ | refine le_put ?_ (by first | omega | (simp only [len_pushv, len_put]; omega)) | refine le_trunc ?_ (by first | omega | (simp only [len_pushv, len_put]; omega)))) rfl ⟨rfl, _, rfl, by rw [this]; simp⟩
    · rename_i hm
      exact ⟨pos + d.2, ⟨rfl, trivial, trivial, trivial, d3, hri.2.2 hm⟩, by omega⟩
  · (repeat' (first | (with_reducible refine @Br_pos _ _ _ _ _ _ (by first | assumption | omega) ?_) | (with_reducible refine @Br_neg _ _ _ _ _ _ (by first | assumption | omega) ?_) | (with_reducible refine @Br_dec _ _ _ _ _ _ (fun _ => ?_) (fun _ => ?_)) | (with_reducible refine Br_bt (by assumption) ?_) | (with_reducible refine Br_bf (by assumption) ?_) | (with_reducible refine Br_b (fun _ => ?_) (fun _ => ?_)) | (with_reducible refine IfK_pos (by first | assumption | omega) ?_) | (with_reducible refine IfK_neg (by first | assumption | omega) ?_) | (with_reducible refine IfK_bf (by assumption) ?_) | (with_reducible refine IfK_dec (fun _ => ?_) (fun _ => ?_)) | (with_reducible refine And.intro ?_ ?_) | simp (maxSteps := 10000000) (disch := ((try simp only [len_pushv, len_put, len_putB, List.length_take, List.length_drop, List.length_append, List.length_map, List.length_replicate, List.length_set, List.length_cons, List.length_nil, true_and, and_true]); first | done | omega | (repeat' (first | exact St.le.refl _ | assumption | refine le_pushv ?_ | refine le_put ?_ (by first | omega | (simp only [len_pushv, len_put]; omega)))))) only [W, Gives, pinsAfter, ↓reduceIte, Nat.reduceEqDiff, Nat.reduceAdd, Nat.reduceMul, Nat.reduceSub, ne_eq, Int.reduceEq, Int.reduceNeg, Int.reduceToNat, Int.reduceAdd, Int.reduceSub, Int.reduceMul, Int.reduceDiv, Int.reduceMod, Int.reduceLT, Int.reduceLE, Nat.reduceLeDiff, Nat.reduceBEq, Nat.reduceLT, code_strings_IndexAny, code_strings_IndexAny_k0, code_strings_IndexAny_k1, code_strings_IndexAny_k2, code_strings_IndexAny_l0, code_strings_IndexAny_k3, code_strings_IndexAny_t0, code_strings_IndexAny_k4, code_strings_IndexAny_l1, code_strings_IndexAny_k5, code_strings_IndexAny_k6, code_strings_IndexAny_k7, code_strings_IndexAny_k8, he0, he1, he45, hlt]))
    have := any_no (s := s) fun j hj => hno j (by omega)
    exact ret_x (by repeat' (first | exact St.le.refl _ | assumption | refine le_pushv ?_ | refine le_put ?_ (by first | omega | (simp only [len_pushv, len_put]; omega)) | refine le_trunc ?_ (by first | omega | (simp only [len_pushv, len_put]; omega)))) rfl ⟨rfl, _, rfl, by rw [this]; rfl⟩
theorem bad_chars (b : UInt8) : ([61, 0, 10] : List UInt8).contains b = badB b := by
  simp only [List.contains_cons, List.contains_nil, badB, Bool.or_false, Bool.or_assoc]
theorem indexAny_sign : ∀ s : List UInt8, decide (0 ≤ Lib.indexAny s [61, 0, 10]) = s.any badB
  | [] => rfl
  | b :: l => by
    have ih := indexAny_sign l
    have hg := Lib.indexAny_ge [61, 0, 10] l
    unfold Lib.indexAny
    rw [List.any_cons, ← ih, ← bad_chars]
    cases h : ([61, 0, 10] : List UInt8).contains b
    · simp
      split <;> omega
    · simp
theorem index_any_long {W0 : World} {S : St} {s : List UInt8} (hs : 8 < s.length) (hl : s.length < 4294967281) : CallsA Pr W0 Fn.strings_IndexAny [.str s, .str [61, 0, 10]] S fun r S' => S' = S ∧ ∃ n : Int, r = .int .i64 n ∧ decide (0 ≤ n) = s.any badB := by
  refine CallsA.of_above fun ρ w vs hS hA => ?_
  obtain ⟨x, y, rfl, hx, hy⟩ := arel_2 hA
  rw [vrel_str hx, vrel_str hy]
  refine (Tryz.strings_IndexAny_long (fun w => run_zero (by kernel_rfl) w) ⟨s.toArray⟩ ⟨[61, 0, 10].toArray⟩ w (by simp [ByteArray.size]) (by simpa [ByteArray.size] using hs) (by simpa [ByteArray.size] using hl) (by simp [ByteArray.size]) (fun j b hb => ?_)).mono ?_
  · match j with
    | 0 => cases hb; decide
    | 1 => cases hb; decide
    | 2 => cases hb; decide
    | j + 3 => simp at hb
  · rintro e w' ⟨rfl, rfl⟩
    refine ⟨?_, _, _, rfl, .int _ _, rfl, _, rfl, indexAny_sign s⟩
    exact (Below.refl _ _ |>.alloc (Nat.le_refl _) _).alloc (by simp) _
theorem index_any {W0 : World} {S : St} {s : List UInt8} (hl : s.length < 4294967281) : CallsA Pr W0 Fn.strings_IndexAny [.str s, .str [61, 0, 10]] S fun r S' => S' = S ∧ ∃ n : Int, r = .int .i64 n ∧ decide (0 ≤ n) = s.any badB := by
  rcases Nat.lt_or_ge 8 s.length with h | h
  · exact index_any_long h hl
  · exact index_any_short h
/-- strings.ContainsAny at the characters that no key has. -/
theorem contains_any {W0 : World} {S : St} {s : List UInt8} (hl : s.length < 4294967281) : Gives Pr W0 Fn.strings_ContainsAny [.str s, .str [61, 0, 10]] S (.bool (s.any badB)) := by
  refine in_strings_ContainsAny (by simp) ?_
  (repeat' (first | (with_reducible refine @Br_pos _ _ _ _ _ _ (by first | assumption | omega) ?_) | (with_reducible refine @Br_neg _ _ _ _ _ _ (by first | assumption | omega) ?_) | (with_reducible refine @Br_dec _ _ _ _ _ _ (fun _ => ?_) (fun _ => ?_)) | (with_reducible refine Br_bt (by assumption) ?_) | (with_reducible refine Br_bf (by assumption) ?_) | (with_reducible refine Br_b (fun _ => ?_) (fun _ => ?_)) | (with_reducible refine IfK_pos (by first | assumption | omega) ?_) | (with_reducible refine IfK_neg (by first | assumption | omega) ?_) | (with_reducible refine IfK_bf (by assumption) ?_) | (with_reducible refine IfK_dec (fun _ => ?_) (fun _ => ?_)) | (with_reducible refine And.intro ?_ ?_) | (refine (index_any hl).mono ?_; rintro _ _ ⟨rfl, n, rfl, hn⟩) | simp (maxSteps := 10000000) (disch := ((try simp only [len_pushv, len_put, len_putB, List.length_take, List.length_drop, List.length_append, List.length_map, List.length_replicate, List.length_set, List.length_cons, List.length_nil, true_and, and_true]); first | done | omega | (repeat' (first | exact St.le.refl _ | assumption | refine le_pushv ?_ | refine le_put ?_ (by first | omega | (simp only [len_pushv, len_put]; omega)))))) only [W, Gives, pinsAfter, ↓reduceIte, Nat.reduceEqDiff, Nat.reduceAdd, Nat.reduceMul, Nat.reduceSub, ne_eq, Int.reduceEq, Int.reduceNeg, Int.reduceToNat, Int.reduceAdd, Int.reduceSub, Int.reduceMul, Int.reduceDiv, Int.reduceMod, Int.reduceLT, Int.reduceLE, Nat.reduceLeDiff, Nat.reduceBEq, Nat.reduceLT, code_strings_ContainsAny]))
  exact ret_same rfl ⟨rfl, by rw [← hn]⟩
end Go.Proofs.YtnfiihdebonadaaGreatDoor.Abs
