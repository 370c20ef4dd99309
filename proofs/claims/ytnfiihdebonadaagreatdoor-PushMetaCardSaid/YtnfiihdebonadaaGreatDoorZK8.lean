import Derived.Test.YtnfiihdebonadaaGreatDoorZK7
set_option linter.unusedSimpArgs false
set_option linter.unusedVariables false
set_option linter.unusedSectionVars false
namespace Go.Proofs.YtnfiihdebonadaaGreatDoor.Abs

/-- Records as the value of a slice that is only read. -/
def recsAV (l : List Rec) : AV := if l = [] then .list true 0 [] else .list false l.length (recsC l)
theorem recsC_append (a b : List Rec) : recsC (a ++ b) = recsC a ++ recsC b := by simp [recsC]
/-- A slice of records of one's own: nil, or a block. -/
def OwnRecs (S S' : St) (x : AV) (l : List Rec) : Prop :=
  (l = [] ∧ x = .list true 0 []) ∨ (l ≠ [] ∧ ∃ id ver, x = .ref id ver 2 0 l.length ∧ S.len ≤ id ∧ id < S'.len ∧ S'.get id = (ver, .row (recsC l)))

def paxRun : Nat → List Rec → List UInt8 → Nat × List Rec
  | 0, _, _ => (0, [])
  | k + 1, acc, s =>
    if s = [] then (0, acc) else
    if acc.length = 64 then (2, []) else
    if (paxOne s).1 ≠ 0 then ((paxOne s).1, []) else
    paxRun k (acc ++ [(paxOne s).2.1]) (paxOne s).2.2
def paxDecode (s : List UInt8) : Nat × List Rec := paxRun (s.length + 1) [] s

theorem recsC_under (m : Nat) (l : List Rec) : underL m (recsC l) = true := by
  rw [underL_iff]; intro x hx
  simp only [recsC, List.mem_flatMap, Rec.cells, List.mem_cons, List.not_mem_nil, or_false] at hx
  obtain ⟨r, _, rfl | rfl⟩ := hx <;> rfl
theorem paxOne_rest {s : List UInt8} (h : (paxOne s).1 = 0) : (paxOne s).2.2.length < s.length := by
  unfold paxOne at *
  simp only at *
  split at h <;> rename_i h1
  · simp at h
  rw [if_neg h1]
  split at h <;> rename_i h2
  · split at h <;> rename_i h3
    · simp at h
    rw [if_neg h3]
    split at h <;> rename_i h4
    · simp at h
    rw [if_neg h4]
    split at h <;> rename_i h5
    · simp at h
    rw [if_neg h5]
    split at h <;> rename_i h6
    · exact absurd h h6
    rw [if_neg h6]
    simp only [List.length_drop]
    have := h3
    omega
  · simp at h
theorem paxOne_len (s : List UInt8) : (paxOne s).2.2.length ≤ s.length := by
  by_cases h : (paxOne s).1 = 0
  · have := paxOne_rest h; omega
  · unfold paxOne at *
    simp only at *
    split <;> (try simp) <;> split <;> (try simp) <;> split <;> (try simp) <;> split <;> (try simp) <;> split <;> (try simp) <;> split <;> simp

section
variable {W0 : World} (G : Glob W0) {S : St}
include G
theorem pax_Decode {x : AV} {l : List UInt8} (hx : Bytes S x l) (hl : l.length < 4294967281) : Gives Pr W0 Fn.pax_Decode [x] S (.tup [recsAV (paxDecode l).2, .int .i64 (paxDecode l).1]) := by
  refine in_pax_Decode (by simp) ?_
  generalize hv : AV.tup [recsAV (paxDecode l).2, .int .i64 (paxDecode l).1] = v
  have xc := hx.conv
  (repeat' (first | (with_reducible refine @Br_pos _ _ _ _ _ _ (by first | assumption | omega) ?_) | (with_reducible refine @Br_neg _ _ _ _ _ _ (by first | assumption | omega) ?_) | (with_reducible refine @Br_dec _ _ _ _ _ _ (fun _ => ?_) (fun _ => ?_)) | (with_reducible refine Br_bt (by assumption) ?_) | (with_reducible refine Br_bf (by assumption) ?_) | (with_reducible refine Br_b (fun _ => ?_) (fun _ => ?_)) | (with_reducible refine IfK_pos (by first | assumption | omega) ?_) | (with_reducible refine IfK_neg (by first | assumption | omega) ?_) | (with_reducible refine IfK_bf (by assumption) ?_) | (with_reducible refine IfK_dec (fun _ => ?_) (fun _ => ?_)) | (with_reducible refine And.intro ?_ ?_) | simp (maxSteps := 10000000) (disch := ((try simp only [len_pushv, len_put, len_putB, List.length_take, List.length_drop, List.length_append, List.length_map, List.length_replicate, List.length_set, List.length_cons, List.length_nil, true_and, and_true]); first | done | omega | (repeat' (first | exact St.le.refl _ | assumption | refine le_pushv ?_ | refine le_put ?_ (by first | omega | (simp only [len_pushv, len_put]; omega)))))) only [W, Gives, pinsAfter, ↓reduceIte, Nat.reduceEqDiff, Nat.reduceAdd, Nat.reduceMul, Nat.reduceSub, ne_eq, Int.reduceEq, Int.reduceNeg, Int.reduceToNat, Int.reduceAdd, Int.reduceSub, Int.reduceMul, Int.reduceDiv, Int.reduceMod, Int.reduceLT, Int.reduceLE, Nat.reduceLeDiff, Nat.reduceBEq, Nat.reduceLT, code_pax_Decode, code_pax_Decode_k0, code_pax_Decode_k1, code_pax_Decode_k2, code_pax_Decode_l0, code_pax_Decode_k3, xc]))
  refine awp_loop (α := List UInt8 × List Rec) (fun y e S' => S.le S' ∧ e 5 = .str y.1 ∧ OwnRecs S S' (e 4) y.2 ∧ y.1.length ≤ l.length ∧ y.2.length ≤ 64 ∧ ∃ k, y.1.length < k ∧ .tup [recsAV (paxRun k y.2 y.1).2, .int .i64 (paxRun k y.2 y.1).1] = v) (fun y => y.1.length) (l, []) ⟨.refl _, by simp (maxSteps := 10000000) (disch := ((try simp only [len_pushv, len_put, len_putB, List.length_take, List.length_drop, List.length_append, List.length_map, List.length_replicate, List.length_set, List.length_cons, List.length_nil, true_and, and_true]); first | done | omega | (repeat' (first | exact St.le.refl _ | assumption | refine le_pushv ?_ | refine le_put ?_ (by first | omega | (simp only [len_pushv, len_put]; omega)))))) only [W, Gives, pinsAfter, ↓reduceIte, Nat.reduceEqDiff, Nat.reduceAdd, Nat.reduceMul, Nat.reduceSub, ne_eq, Int.reduceEq, Int.reduceNeg, Int.reduceToNat, Int.reduceAdd, Int.reduceSub, Int.reduceMul, Int.reduceDiv, Int.reduceMod, Int.reduceLT, Int.reduceLE, Nat.reduceLeDiff, Nat.reduceBEq, Nat.reduceLT], .inl ⟨rfl, by simp (maxSteps := 10000000) (disch := ((try simp only [len_pushv, len_put, len_putB, List.length_take, List.length_drop, List.length_append, List.length_map, List.length_replicate, List.length_set, List.length_cons, List.length_nil, true_and, and_true]); first | done | omega | (repeat' (first | exact St.le.refl _ | assumption | refine le_pushv ?_ | refine le_put ?_ (by first | omega | (simp only [len_pushv, len_put]; omega)))))) only [W, Gives, pinsAfter, ↓reduceIte, Nat.reduceEqDiff, Nat.reduceAdd, Nat.reduceMul, Nat.reduceSub, ne_eq, Int.reduceEq, Int.reduceNeg, Int.reduceToNat, Int.reduceAdd, Int.reduceSub, Int.reduceMul, Int.reduceDiv, Int.reduceMod, Int.reduceLT, Int.reduceLE, Nat.reduceLeDiff, Nat.reduceBEq, Nat.reduceLT]⟩, by simp, by simp, l.length + 1, by simp, hv⟩ ?_
  rintro ⟨s, rs⟩ e S' ⟨hle, he5, hown, hsl, hrs, k, hk, hv⟩
  simp only at he5 hown hsl hrs hk hv
  obtain ⟨k, rfl⟩ : ∃ j, k = j + 1 := ⟨k - 1, by omega⟩
  have hlen : lenLA S' (e 4) = some (.int .i64 rs.length) := by
    rcases hown with ⟨rfl, h⟩ | ⟨_, id, ver, h, _, _, hg⟩
    · rw [h]; rfl
    · rw [h, len_ref, hg, verK_at]
  by_cases h1 : s = []
  · subst h1
    simp only [paxRun, if_true] at hv
    (repeat' (first | (with_reducible refine @Br_pos _ _ _ _ _ _ (by first | assumption | omega) ?_) | (with_reducible refine @Br_neg _ _ _ _ _ _ (by first | assumption | omega) ?_) | (with_reducible refine @Br_dec _ _ _ _ _ _ (fun _ => ?_) (fun _ => ?_)) | (with_reducible refine Br_bt (by assumption) ?_) | (with_reducible refine Br_bf (by assumption) ?_) | (with_reducible refine Br_b (fun _ => ?_) (fun _ => ?_)) | (with_reducible refine IfK_pos (by first | assumption | omega) ?_) | (with_reducible refine IfK_neg (by first | assumption | omega) ?_) | (with_reducible refine IfK_bf (by assumption) ?_) | (with_reducible refine IfK_dec (fun _ => ?_) (fun _ => ?_)) | (with_reducible refine And.intro ?_ ?_) | simp (maxSteps := 10000000) (disch := ((try simp only [len_pushv, len_put, len_putB, List.length_take, List.length_drop, List.length_append, List.length_map, List.length_replicate, List.length_set, List.length_cons, List.length_nil, true_and, and_true]); first | done | omega | (repeat' (first | exact St.le.refl _ | assumption | refine le_pushv ?_ | refine le_put ?_ (by first | omega | (simp only [len_pushv, len_put]; omega)))))) only [W, Gives, pinsAfter, ↓reduceIte, Nat.reduceEqDiff, Nat.reduceAdd, Nat.reduceMul, Nat.reduceSub, ne_eq, Int.reduceEq, Int.reduceNeg, Int.reduceToNat, Int.reduceAdd, Int.reduceSub, Int.reduceMul, Int.reduceDiv, Int.reduceMod, Int.reduceLT, Int.reduceLE, Nat.reduceLeDiff, Nat.reduceBEq, Nat.reduceLT, code_pax_Decode, code_pax_Decode_k0, code_pax_Decode_k1, code_pax_Decode_k2, code_pax_Decode_l0, code_pax_Decode_k3, he5, hlen]))
    rcases hown with ⟨rfl, h⟩ | ⟨hne, id, ver, h, hid, _, hg⟩
    · rw [h]
      exact ret_x hle rfl ⟨rfl, by rw [← hv]; rfl⟩
    · rw [h]
      exact ret_own2 hle hid hg (by rw [recsC_length]; omega) (recsC_under _ _) rfl ⟨rfl, by rw [← hv, recsAV, if_neg hne]; rfl⟩
  rw [paxRun, if_neg h1] at hv
  by_cases h2 : rs.length = 64
  · rw [if_pos h2] at hv
    (repeat' (first | (with_reducible refine @Br_pos _ _ _ _ _ _ (by first | assumption | omega) ?_) | (with_reducible refine @Br_neg _ _ _ _ _ _ (by first | assumption | omega) ?_) | (with_reducible refine @Br_dec _ _ _ _ _ _ (fun _ => ?_) (fun _ => ?_)) | (with_reducible refine Br_bt (by assumption) ?_) | (with_reducible refine Br_bf (by assumption) ?_) | (with_reducible refine Br_b (fun _ => ?_) (fun _ => ?_)) | (with_reducible refine IfK_pos (by first | assumption | omega) ?_) | (with_reducible refine IfK_neg (by first | assumption | omega) ?_) | (with_reducible refine IfK_bf (by assumption) ?_) | (with_reducible refine IfK_dec (fun _ => ?_) (fun _ => ?_)) | (with_reducible refine And.intro ?_ ?_) | simp (maxSteps := 10000000) (disch := ((try simp only [len_pushv, len_put, len_putB, List.length_take, List.length_drop, List.length_append, List.length_map, List.length_replicate, List.length_set, List.length_cons, List.length_nil, true_and, and_true]); first | done | omega | (repeat' (first | exact St.le.refl _ | assumption | refine le_pushv ?_ | refine le_put ?_ (by first | omega | (simp only [len_pushv, len_put]; omega)))))) only [W, Gives, pinsAfter, ↓reduceIte, Nat.reduceEqDiff, Nat.reduceAdd, Nat.reduceMul, Nat.reduceSub, ne_eq, Int.reduceEq, Int.reduceNeg, Int.reduceToNat, Int.reduceAdd, Int.reduceSub, Int.reduceMul, Int.reduceDiv, Int.reduceMod, Int.reduceLT, Int.reduceLE, Nat.reduceLeDiff, Nat.reduceBEq, Nat.reduceLT, code_pax_Decode, code_pax_Decode_k0, code_pax_Decode_k1, code_pax_Decode_k2, code_pax_Decode_l0, code_pax_Decode_k3, he5, hlen, h1]))
    exact ret_x hle rfl ⟨rfl, hv⟩
  rw [if_neg h2] at hv
  (repeat' (first | (with_reducible refine @Br_pos _ _ _ _ _ _ (by first | assumption | omega) ?_) | (with_reducible refine @Br_neg _ _ _ _ _ _ (by first | assumption | omega) ?_) | (with_reducible refine @Br_dec _ _ _ _ _ _ (fun _ => ?_) (fun _ => ?_)) | (with_reducible refine Br_bt (by assumption) ?_) | (with_reducible refine Br_bf (by assumption) ?_) | (with_reducible refine Br_b (fun _ => ?_) (fun _ => ?_)) | (with_reducible refine IfK_pos (by first | assumption | omega) ?_) | (with_reducible refine IfK_neg (by first | assumption | omega) ?_) | (with_reducible refine IfK_bf (by assumption) ?_) | (with_reducible refine IfK_dec (fun _ => ?_) (fun _ => ?_)) | (with_reducible refine And.intro ?_ ?_) | simp (maxSteps := 10000000) (disch := ((try simp only [len_pushv, len_put, len_putB, List.length_take, List.length_drop, List.length_append, List.length_map, List.length_replicate, List.length_set, List.length_cons, List.length_nil, true_and, and_true]); first | done | omega | (repeat' (first | exact St.le.refl _ | assumption | refine le_pushv ?_ | refine le_put ?_ (by first | omega | (simp only [len_pushv, len_put]; omega)))))) only [W, Gives, pinsAfter, ↓reduceIte, Nat.reduceEqDiff, Nat.reduceAdd, Nat.reduceMul, Nat.reduceSub, ne_eq, Int.reduceEq, Int.reduceNeg, Int.reduceToNat, Int.reduceAdd, Int.reduceSub, Int.reduceMul, Int.reduceDiv, Int.reduceMod, Int.reduceLT, Int.reduceLE, Nat.reduceLeDiff, Nat.reduceBEq, Nat.reduceLT, code_pax_Decode, code_pax_Decode_k0, code_pax_Decode_k1, code_pax_Decode_k2, code_pax_Decode_l0, code_pax_Decode_k3, he5, hlen, h1]))
  refine (pax_one G (by omega)).go ?_
  by_cases h3 : (paxOne s).1 ≠ 0
  · rw [if_pos h3] at hv
    (repeat' (first | (with_reducible refine @Br_pos _ _ _ _ _ _ (by first | assumption | omega) ?_) | (with_reducible refine @Br_neg _ _ _ _ _ _ (by first | assumption | omega) ?_) | (with_reducible refine @Br_dec _ _ _ _ _ _ (fun _ => ?_) (fun _ => ?_)) | (with_reducible refine Br_bt (by assumption) ?_) | (with_reducible refine Br_bf (by assumption) ?_) | (with_reducible refine Br_b (fun _ => ?_) (fun _ => ?_)) | (with_reducible refine IfK_pos (by first | assumption | omega) ?_) | (with_reducible refine IfK_neg (by first | assumption | omega) ?_) | (with_reducible refine IfK_bf (by assumption) ?_) | (with_reducible refine IfK_dec (fun _ => ?_) (fun _ => ?_)) | (with_reducible refine And.intro ?_ ?_) | simp (maxSteps := 10000000) (disch := ((try simp only [len_pushv, len_put, len_putB, List.length_take, List.length_drop, List.length_append, List.length_map, List.length_replicate, List.length_set, List.length_cons, List.length_nil, true_and, and_true]); first | done | omega | (repeat' (first | exact St.le.refl _ | assumption | refine le_pushv ?_ | refine le_put ?_ (by first | omega | (simp only [len_pushv, len_put]; omega)))))) only [W, Gives, pinsAfter, ↓reduceIte, Nat.reduceEqDiff, Nat.reduceAdd, Nat.reduceMul, Nat.reduceSub, ne_eq, Int.reduceEq, Int.reduceNeg, Int.reduceToNat, Int.reduceAdd, Int.reduceSub, Int.reduceMul, Int.reduceDiv, Int.reduceMod, Int.reduceLT, Int.reduceLE, Nat.reduceLeDiff, Nat.reduceBEq, Nat.reduceLT, code_pax_Decode, code_pax_Decode_k0, code_pax_Decode_k1, code_pax_Decode_k2, code_pax_Decode_l0, code_pax_Decode_k3, oneAV, Rec.cells]))
    exact ret_x (le_pushv hle) rfl ⟨rfl, by rw [← hv]; rfl⟩
  have h3' : (paxOne s).1 = 0 := by omega
  rw [if_neg h3] at hv
  have hr := paxOne_rest h3'
  have hw := recsC_length rs
  rcases hown with ⟨rfl, h⟩ | ⟨hne, id, ver, h, hid, hid2, hg⟩
  · (repeat' (first | (with_reducible refine @Br_pos _ _ _ _ _ _ (by first | assumption | omega) ?_) | (with_reducible refine @Br_neg _ _ _ _ _ _ (by first | assumption | omega) ?_) | (with_reducible refine @Br_dec _ _ _ _ _ _ (fun _ => ?_) (fun _ => ?_)) | (with_reducible refine Br_bt (by assumption) ?_) | (with_reducible refine Br_bf (by assumption) ?_) | (with_reducible refine Br_b (fun _ => ?_) (fun _ => ?_)) | (with_reducible refine IfK_pos (by first | assumption | omega) ?_) | (with_reducible refine IfK_neg (by first | assumption | omega) ?_) | (with_reducible refine IfK_bf (by assumption) ?_) | (with_reducible refine IfK_dec (fun _ => ?_) (fun _ => ?_)) | (with_reducible refine And.intro ?_ ?_) | simp (maxSteps := 10000000) (disch := ((try simp only [len_pushv, len_put, len_putB, List.length_take, List.length_drop, List.length_append, List.length_map, List.length_replicate, List.length_set, List.length_cons, List.length_nil, true_and, and_true]); first | done | omega | (repeat' (first | exact St.le.refl _ | assumption | refine le_pushv ?_ | refine le_put ?_ (by first | omega | (simp only [len_pushv, len_put]; omega)))))) only [W, Gives, pinsAfter, ↓reduceIte, Nat.reduceEqDiff, Nat.reduceAdd, Nat.reduceMul, Nat.reduceSub, ne_eq, Int.reduceEq, Int.reduceNeg, Int.reduceToNat, Int.reduceAdd, Int.reduceSub, Int.reduceMul, Int.reduceDiv, Int.reduceMod, Int.reduceLT, Int.reduceLE, Nat.reduceLeDiff, Nat.reduceBEq, Nat.reduceLT, code_pax_Decode, code_pax_Decode_k0, code_pax_Decode_k1, code_pax_Decode_k2, code_pax_Decode_l0, code_pax_Decode_k3, oneAV, Rec.cells, h3', h, he5]))
    exact ⟨((paxOne s).2.2, [(paxOne s).2.1]), ⟨(by repeat' (first | exact St.le.refl _ | assumption | refine le_pushv ?_ | refine le_put ?_ (by first | omega | (simp only [len_pushv, len_put]; omega)) | refine le_trunc ?_ (by first | omega | (simp only [len_pushv, len_put]; omega)))), rfl, .inr ⟨by simp, S'.len + 1, 0, rfl, by have := hle.1; omega, by simp only [len_pushv]; omega, get_pushv_at (by rw [len_pushv])⟩, by simp only; omega, by simp, k, by simp only; omega, hv⟩, by simp only; omega⟩
  · (repeat' (first | (with_reducible refine @Br_pos _ _ _ _ _ _ (by first | assumption | omega) ?_) | (with_reducible refine @Br_neg _ _ _ _ _ _ (by first | assumption | omega) ?_) | (with_reducible refine @Br_dec _ _ _ _ _ _ (fun _ => ?_) (fun _ => ?_)) | (with_reducible refine Br_bt (by assumption) ?_) | (with_reducible refine Br_bf (by assumption) ?_) | (with_reducible refine Br_b (fun _ => ?_) (fun _ => ?_)) | (with_reducible refine IfK_pos (by first | assumption | omega) ?_) | (with_reducible refine IfK_neg (by first | assumption | omega) ?_) | (with_reducible refine IfK_bf (by assumption) ?_) | (with_reducible refine IfK_dec (fun _ => ?_) (fun _ => ?_)) | (with_reducible refine And.intro ?_ ?_) | simp (maxSteps := 10000000) (disch := ((try simp only [len_pushv, len_put, len_putB, List.length_take, List.length_drop, List.length_append, List.length_map, List.length_replicate, List.length_set, List.length_cons, List.length_nil, true_and, and_true]); first | done | omega | (repeat' (first | exact St.le.refl _ | assumption | refine le_pushv ?_ | refine le_put ?_ (by first | omega | (simp only [len_pushv, len_put]; omega)))))) only [W, Gives, pinsAfter, ↓reduceIte, Nat.reduceEqDiff, Nat.reduceAdd, Nat.reduceMul, Nat.reduceSub, ne_eq, Int.reduceEq, Int.reduceNeg, Int.reduceToNat, Int.reduceAdd, Int.reduceSub, Int.reduceMul, Int.reduceDiv, Int.reduceMod, Int.reduceLT, Int.reduceLE, Nat.reduceLeDiff, Nat.reduceBEq, Nat.reduceLT, code_pax_Decode, code_pax_Decode_k0, code_pax_Decode_k1, code_pax_Decode_k2, code_pax_Decode_l0, code_pax_Decode_k3, oneAV, Rec.cells, h3', h, hg, he5, hw]))
    have e1 : recsC rs ++ [AV.str (paxOne s).2.1.key, AV.str (paxOne s).2.1.val] = recsC (rs ++ [(paxOne s).2.1]) := by rw [recsC_append]; rfl
    rw [e1]
    exact ⟨((paxOne s).2.2, rs ++ [(paxOne s).2.1]), ⟨(by repeat' (first | exact St.le.refl _ | assumption | refine le_pushv ?_ | refine le_put ?_ (by first | omega | (simp only [len_pushv, len_put]; omega)) | refine le_trunc ?_ (by first | omega | (simp only [len_pushv, len_put]; omega)))), rfl, .inr ⟨by simp, id, ver + 1, by simp, hid, by simp only [len_pushv, len_put]; omega, by rw [get_pushv_ne (by simp only [len_put]; omega), get_put_at hid2]⟩, by simp only; omega, by simp; omega, k, by simp only; omega, hv⟩, by simp only; omega⟩
omit G in
/-- The value of the last record with a key. -/
theorem recsC_get (rs : List Rec) (i o : Nat) (hi : i < rs.length) (ho : o < 2) : (recsC rs)[i * 2 + o]? = some (if o = 0 then .str (rs.getD i default).key else .str (rs.getD i default).val) := by
  induction rs generalizing i with
  | nil => simp at hi
  | cons r rs ih =>
    cases i with
    | zero =>
      have : o = 0 ∨ o = 1 := by omega
      rcases this with rfl | rfl <;> simp [recsC, Rec.cells]
    | succ i =>
      have := ih i (by simpa using hi)
      have e : (i + 1) * 2 + o = (i * 2 + o) + 2 := by omega
      rw [e]
      simpa [recsC, Rec.cells] using this
end
def getUp (l : List Rec) (k : List UInt8) : Nat → List UInt8 × Bool
  | 0 => ([], false)
  | i + 1 => if (l.getD i default).key = k then ((l.getD i default).val, true) else getUp l k i
def paxGet (l : List Rec) (k : List UInt8) : List UInt8 × Bool := getUp l k l.length

theorem pax_Get {W0 : World} {S : St} {x : AV} {rs : List Rec} {key : List UInt8} (hx : Holds S 2 x rs.length (recsC rs)) (hl : rs.length ≤ 1000000) : Gives Pr W0 Fn.pax_Get [x, .str key] S (.tup [.str (paxGet rs key).1, .bool (paxGet rs key).2]) := by
  refine in_pax_Get (by simp) ?_
  unfold paxGet
  generalize hv : AV.tup [.str (getUp rs key rs.length).1, .bool (getUp rs key rs.length).2] = v
  have xl := hx.len
  have hw := recsC_length rs
  have xi := @Holds.iaddr _ _ _ _ _ hx (by omega) .i64
  have xf := hx.faddr
  have xe := @Holds.loadF1 _ _ _ _ _ hx
  (repeat' (first | (with_reducible refine @Br_pos _ _ _ _ _ _ (by first | assumption | omega) ?_) | (with_reducible refine @Br_neg _ _ _ _ _ _ (by first | assumption | omega) ?_) | (with_reducible refine @Br_dec _ _ _ _ _ _ (fun _ => ?_) (fun _ => ?_)) | (with_reducible refine Br_bt (by assumption) ?_) | (with_reducible refine Br_bf (by assumption) ?_) | (with_reducible refine Br_b (fun _ => ?_) (fun _ => ?_)) | (with_reducible refine IfK_pos (by first | assumption | omega) ?_) | (with_reducible refine IfK_neg (by first | assumption | omega) ?_) | (with_reducible refine IfK_bf (by assumption) ?_) | (with_reducible refine IfK_dec (fun _ => ?_) (fun _ => ?_)) | (with_reducible refine And.intro ?_ ?_) | simp (maxSteps := 10000000) (disch := ((try simp only [len_pushv, len_put, len_putB, List.length_take, List.length_drop, List.length_append, List.length_map, List.length_replicate, List.length_set, List.length_cons, List.length_nil, true_and, and_true]); first | done | omega | (repeat' (first | exact St.le.refl _ | assumption | refine le_pushv ?_ | refine le_put ?_ (by first | omega | (simp only [len_pushv, len_put]; omega)))))) only [W, Gives, pinsAfter, ↓reduceIte, Nat.reduceEqDiff, Nat.reduceAdd, Nat.reduceMul, Nat.reduceSub, ne_eq, Int.reduceEq, Int.reduceNeg, Int.reduceToNat, Int.reduceAdd, Int.reduceSub, Int.reduceMul, Int.reduceDiv, Int.reduceMod, Int.reduceLT, Int.reduceLE, Nat.reduceLeDiff, Nat.reduceBEq, Nat.reduceLT, code_pax_Get, code_pax_Get_k0, code_pax_Get_k1, code_pax_Get_l0, code_pax_Get_k2, xl]))
  refine awp_loop (α := Nat) (fun j e S' => S' = S ∧ e 0 = x ∧ e 1 = .str key ∧ e 6 = .int .i64 ((j : Int) - 1) ∧ j ≤ rs.length ∧ .tup [.str (getUp rs key j).1, .bool (getUp rs key j).2] = v) (fun j => j) rs.length ⟨rfl, by simp (maxSteps := 10000000) (disch := ((try simp only [len_pushv, len_put, len_putB, List.length_take, List.length_drop, List.length_append, List.length_map, List.length_replicate, List.length_set, List.length_cons, List.length_nil, true_and, and_true]); first | done | omega | (repeat' (first | exact St.le.refl _ | assumption | refine le_pushv ?_ | refine le_put ?_ (by first | omega | (simp only [len_pushv, len_put]; omega)))))) only [W, Gives, pinsAfter, ↓reduceIte, Nat.reduceEqDiff, Nat.reduceAdd, Nat.reduceMul, Nat.reduceSub, ne_eq, Int.reduceEq, Int.reduceNeg, Int.reduceToNat, Int.reduceAdd, Int.reduceSub, Int.reduceMul, Int.reduceDiv, Int.reduceMod, Int.reduceLT, Int.reduceLE, Nat.reduceLeDiff, Nat.reduceBEq, Nat.reduceLT], by simp (maxSteps := 10000000) (disch := ((try simp only [len_pushv, len_put, len_putB, List.length_take, List.length_drop, List.length_append, List.length_map, List.length_replicate, List.length_set, List.length_cons, List.length_nil, true_and, and_true]); first | done | omega | (repeat' (first | exact St.le.refl _ | assumption | refine le_pushv ?_ | refine le_put ?_ (by first | omega | (simp only [len_pushv, len_put]; omega)))))) only [W, Gives, pinsAfter, ↓reduceIte, Nat.reduceEqDiff, Nat.reduceAdd, Nat.reduceMul, Nat.reduceSub, ne_eq, Int.reduceEq, Int.reduceNeg, Int.reduceToNat, Int.reduceAdd, Int.reduceSub, Int.reduceMul, Int.reduceDiv, Int.reduceMod, Int.reduceLT, Int.reduceLE, Nat.reduceLeDiff, Nat.reduceBEq, Nat.reduceLT], by simp (maxSteps := 10000000) (disch := ((try simp only [len_pushv, len_put, len_putB, List.length_take, List.length_drop, List.length_append, List.length_map, List.length_replicate, List.length_set, List.length_cons, List.length_nil, true_and, and_true]); first | done | omega | (repeat' (first | exact St.le.refl _ | assumption | refine le_pushv ?_ | refine le_put ?_ (by first | omega | (simp only [len_pushv, len_put]; omega)))))) only [W, Gives, pinsAfter, ↓reduceIte, Nat.reduceEqDiff, Nat.reduceAdd, Nat.reduceMul, Nat.reduceSub, ne_eq, Int.reduceEq, Int.reduceNeg, Int.reduceToNat, Int.reduceAdd, Int.reduceSub, Int.reduceMul, Int.reduceDiv, Int.reduceMod, Int.reduceLT, Int.reduceLE, Nat.reduceLeDiff, Nat.reduceBEq, Nat.reduceLT], by omega, hv⟩ ?_
  rintro j e S' ⟨rfl, he0, he1, he6, hj, hv⟩
  cases j with
  | zero =>
    (repeat' (first | (with_reducible refine @Br_pos _ _ _ _ _ _ (by first | assumption | omega) ?_) | (with_reducible refine @Br_neg _ _ _ _ _ _ (by first | assumption | omega) ?_) | (with_reducible refine @Br_dec _ _ _ _ _ _ (fun _ => ?_) (fun _ => ?_)) | (with_reducible refine Br_bt (by assumption) ?_) | (with_reducible refine Br_bf (by assumption) ?_) | (with_reducible refine Br_b (fun _ => ?_) (fun _ => ?_)) | (with_reducible refine IfK_pos (by first | assumption | omega) ?_) | (with_reducible refine IfK_neg (by first | assumption | omega) ?_) | (with_reducible refine IfK_bf (by assumption) ?_) | (with_reducible refine IfK_dec (fun _ => ?_) (fun _ => ?_)) | (with_reducible refine And.intro ?_ ?_) | simp (maxSteps := 10000000) (disch := ((try simp only [len_pushv, len_put, len_putB, List.length_take, List.length_drop, List.length_append, List.length_map, List.length_replicate, List.length_set, List.length_cons, List.length_nil, true_and, and_true]); first | done | omega | (repeat' (first | exact St.le.refl _ | assumption | refine le_pushv ?_ | refine le_put ?_ (by first | omega | (simp only [len_pushv, len_put]; omega)))))) only [W, Gives, pinsAfter, ↓reduceIte, Nat.reduceEqDiff, Nat.reduceAdd, Nat.reduceMul, Nat.reduceSub, ne_eq, Int.reduceEq, Int.reduceNeg, Int.reduceToNat, Int.reduceAdd, Int.reduceSub, Int.reduceMul, Int.reduceDiv, Int.reduceMod, Int.reduceLT, Int.reduceLE, Nat.reduceLeDiff, Nat.reduceBEq, Nat.reduceLT, code_pax_Get, code_pax_Get_k0, code_pax_Get_k1, code_pax_Get_l0, code_pax_Get_k2, he0, he1, he6, xl]))
    exact ret_same rfl ⟨rfl, hv⟩
  | succ j =>
    have et : (((j + 1 : Nat) : Int) - 1) = (j : Int) := by omega
    rw [et] at he6
    have g0 : (recsC rs)[j * 2 + 0]? = some (.str (rs.getD j default).key) := recsC_get rs j 0 (by omega) (by omega)
    have g1 : (recsC rs)[j * 2 + 1]? = some (.str (rs.getD j default).val) := recsC_get rs j 1 (by omega) (by omega)
    rw [Nat.add_zero] at g0
    rw [getUp] at hv
    (repeat' (first | (with_reducible refine @Br_pos _ _ _ _ _ _ (by first | assumption | omega) ?_) | (with_reducible refine @Br_neg _ _ _ _ _ _ (by first | assumption | omega) ?_) | (with_reducible refine @Br_dec _ _ _ _ _ _ (fun _ => ?_) (fun _ => ?_)) | (with_reducible refine Br_bt (by assumption) ?_) | (with_reducible refine Br_bf (by assumption) ?_) | (with_reducible refine Br_b (fun _ => ?_) (fun _ => ?_)) | (with_reducible refine IfK_pos (by first | assumption | omega) ?_) | (with_reducible refine IfK_neg (by first | assumption | omega) ?_) | (with_reducible refine IfK_bf (by assumption) ?_) | (with_reducible refine IfK_dec (fun _ => ?_) (fun _ => ?_)) | (with_reducible refine And.intro ?_ ?_) | simp (maxSteps := 10000000) (disch := ((try simp only [len_pushv, len_put, len_putB, List.length_take, List.length_drop, List.length_append, List.length_map, List.length_replicate, List.length_set, List.length_cons, List.length_nil, true_and, and_true]); first | done | omega | (repeat' (first | exact St.le.refl _ | assumption | refine le_pushv ?_ | refine le_put ?_ (by first | omega | (simp only [len_pushv, len_put]; omega)))))) only [W, Gives, pinsAfter, ↓reduceIte, Nat.reduceEqDiff, Nat.reduceAdd, Nat.reduceMul, Nat.reduceSub, ne_eq, Int.reduceEq, Int.reduceNeg, Int.reduceToNat, Int.reduceAdd, Int.reduceSub, Int.reduceMul, Int.reduceDiv, Int.reduceMod, Int.reduceLT, Int.reduceLE, Nat.reduceLeDiff, Nat.reduceBEq, Nat.reduceLT, code_pax_Get, code_pax_Get_k0, code_pax_Get_k1, code_pax_Get_l0, code_pax_Get_k2, he0, he1, he6, xl, xi, xf, xe, g0, g1]))
    · rename_i h
      rw [if_pos h] at hv
      exact ret_same rfl ⟨rfl, hv⟩
    · rename_i h
      rw [if_neg h] at hv
      exact ⟨j, ⟨trivial, trivial, trivial, rfl, by omega, hv⟩, by omega⟩

/-- The whole number of a value. -/
def paxNum (s : List UInt8) : Option Int := match Lib.parseIntB 64 s with
  | .ok n => if Lib.itoa n = s then some n else none
  | _ => none
def numR (o : Option Int) : AV := match o with
  | some n => .tup [.int .i64 n, .int .i64 0]
  | none => .tup [.int .i64 0, .int .i64 70]
theorem parseInt_in64 {l : List UInt8} {n : Int} (h : Lib.parseIntB 64 l = .ok n) : in64 n := by
  unfold Lib.parseIntB at h
  split at h
  · cases h
  · simp only at h
    split at h
    · cases h
    · cases h
    · rename_i u hu
      split at h
      · cases h
      · split at h
        · cases h
        · injection h with h
          subst h
          rename_i h1 h2
          simp only [not_and, Nat.not_le, Nat.not_lt] at h1 h2
          split <;> constructor <;> simp_all <;> omega
theorem pax_Number {W0 : World} (G : Glob W0) {S : St} {s : List UInt8} (hs : s.length ≤ 281474976710656) : Gives Pr W0 Fn.pax_Number [.str s] S (numR (paxNum s)) := by
  refine in_pax_Number (by simp) ?_
  generalize hv : numR (paxNum s) = v
  (repeat' (first | (with_reducible refine @Br_pos _ _ _ _ _ _ (by first | assumption | omega) ?_) | (with_reducible refine @Br_neg _ _ _ _ _ _ (by first | assumption | omega) ?_) | (with_reducible refine @Br_dec _ _ _ _ _ _ (fun _ => ?_) (fun _ => ?_)) | (with_reducible refine Br_bt (by assumption) ?_) | (with_reducible refine Br_bf (by assumption) ?_) | (with_reducible refine Br_b (fun _ => ?_) (fun _ => ?_)) | (with_reducible refine IfK_pos (by first | assumption | omega) ?_) | (with_reducible refine IfK_neg (by first | assumption | omega) ?_) | (with_reducible refine IfK_bf (by assumption) ?_) | (with_reducible refine IfK_dec (fun _ => ?_) (fun _ => ?_)) | (with_reducible refine And.intro ?_ ?_) | simp (maxSteps := 10000000) (disch := ((try simp only [len_pushv, len_put, len_putB, List.length_take, List.length_drop, List.length_append, List.length_map, List.length_replicate, List.length_set, List.length_cons, List.length_nil, true_and, and_true]); first | done | omega | (repeat' (first | exact St.le.refl _ | assumption | refine le_pushv ?_ | refine le_put ?_ (by first | omega | (simp only [len_pushv, len_put]; omega)))))) only [W, Gives, pinsAfter, ↓reduceIte, Nat.reduceEqDiff, Nat.reduceAdd, Nat.reduceMul, Nat.reduceSub, ne_eq, Int.reduceEq, Int.reduceNeg, Int.reduceToNat, Int.reduceAdd, Int.reduceSub, Int.reduceMul, Int.reduceDiv, Int.reduceMod, Int.reduceLT, Int.reduceLE, Nat.reduceLeDiff, Nat.reduceBEq, Nat.reduceLT, code_pax_Number, code_pax_Number_k0]))
  refine lib_ParseInt G hs (fun n hn => ?_) (fun hn T n => ?_)
  · have h6 := parseInt_in64 hn
    (repeat' (first | (with_reducible refine @Br_pos _ _ _ _ _ _ (by first | assumption | omega) ?_) | (with_reducible refine @Br_neg _ _ _ _ _ _ (by first | assumption | omega) ?_) | (with_reducible refine @Br_dec _ _ _ _ _ _ (fun _ => ?_) (fun _ => ?_)) | (with_reducible refine Br_bt (by assumption) ?_) | (with_reducible refine Br_bf (by assumption) ?_) | (with_reducible refine Br_b (fun _ => ?_) (fun _ => ?_)) | (with_reducible refine IfK_pos (by first | assumption | omega) ?_) | (with_reducible refine IfK_neg (by first | assumption | omega) ?_) | (with_reducible refine IfK_bf (by assumption) ?_) | (with_reducible refine IfK_dec (fun _ => ?_) (fun _ => ?_)) | (with_reducible refine And.intro ?_ ?_) | simp (maxSteps := 10000000) (disch := ((try simp only [len_pushv, len_put, len_putB, List.length_take, List.length_drop, List.length_append, List.length_map, List.length_replicate, List.length_set, List.length_cons, List.length_nil, true_and, and_true]); first | done | omega | (repeat' (first | exact St.le.refl _ | assumption | refine le_pushv ?_ | refine le_put ?_ (by first | omega | (simp only [len_pushv, len_put]; omega)))))) only [W, Gives, pinsAfter, ↓reduceIte, Nat.reduceEqDiff, Nat.reduceAdd, Nat.reduceMul, Nat.reduceSub, ne_eq, Int.reduceEq, Int.reduceNeg, Int.reduceToNat, Int.reduceAdd, Int.reduceSub, Int.reduceMul, Int.reduceDiv, Int.reduceMod, Int.reduceLT, Int.reduceLE, Nat.reduceLeDiff, Nat.reduceBEq, Nat.reduceLT, code_pax_Number, code_pax_Number_k0]))
    refine (lib_FormatInt G h6).go ?_
    (repeat' (first | (with_reducible refine @Br_pos _ _ _ _ _ _ (by first | assumption | omega) ?_) | (with_reducible refine @Br_neg _ _ _ _ _ _ (by first | assumption | omega) ?_) | (with_reducible refine @Br_dec _ _ _ _ _ _ (fun _ => ?_) (fun _ => ?_)) | (with_reducible refine Br_bt (by assumption) ?_) | (with_reducible refine Br_bf (by assumption) ?_) | (with_reducible refine Br_b (fun _ => ?_) (fun _ => ?_)) | (with_reducible refine IfK_pos (by first | assumption | omega) ?_) | (with_reducible refine IfK_neg (by first | assumption | omega) ?_) | (with_reducible refine IfK_bf (by assumption) ?_) | (with_reducible refine IfK_dec (fun _ => ?_) (fun _ => ?_)) | (with_reducible refine And.intro ?_ ?_) | simp (maxSteps := 10000000) (disch := ((try simp only [len_pushv, len_put, len_putB, List.length_take, List.length_drop, List.length_append, List.length_map, List.length_replicate, List.length_set, List.length_cons, List.length_nil, true_and, and_true]); first | done | omega | (repeat' (first | exact St.le.refl _ | assumption | refine le_pushv ?_ | refine le_put ?_ (by first | omega | (simp only [len_pushv, len_put]; omega)))))) only [W, Gives, pinsAfter, ↓reduceIte, Nat.reduceEqDiff, Nat.reduceAdd, Nat.reduceMul, Nat.reduceSub, ne_eq, Int.reduceEq, Int.reduceNeg, Int.reduceToNat, Int.reduceAdd, Int.reduceSub, Int.reduceMul, Int.reduceDiv, Int.reduceMod, Int.reduceLT, Int.reduceLE, Nat.reduceLeDiff, Nat.reduceBEq, Nat.reduceLT, code_pax_Number, code_pax_Number_k0]))
    · rename_i h
      exact ret_same rfl ⟨rfl, by rw [← hv, paxNum, hn]; simp only [if_neg h]; rfl⟩
    · rename_i h
      have h' : Lib.itoa n = s := by
        by_cases g : Lib.itoa n = s
        · exact g
        · exact absurd g h
      exact ret_same rfl ⟨rfl, by rw [← hv, paxNum, hn]; simp only [if_pos h']; rfl⟩
  · have e : paxNum s = none := by
      unfold paxNum
      split
      · rename_i n' h; exact absurd h (hn n')
      · rfl
    (repeat' (first | (with_reducible refine @Br_pos _ _ _ _ _ _ (by first | assumption | omega) ?_) | (with_reducible refine @Br_neg _ _ _ _ _ _ (by first | assumption | omega) ?_) | (with_reducible refine @Br_dec _ _ _ _ _ _ (fun _ => ?_) (fun _ => ?_)) | (with_reducible refine Br_bt (by assumption) ?_) | (with_reducible refine Br_bf (by assumption) ?_) | (with_reducible refine Br_b (fun _ => ?_) (fun _ => ?_)) | (with_reducible refine IfK_pos (by first | assumption | omega) ?_) | (with_reducible refine IfK_neg (by first | assumption | omega) ?_) | (with_reducible refine IfK_bf (by assumption) ?_) | (with_reducible refine IfK_dec (fun _ => ?_) (fun _ => ?_)) | (with_reducible refine And.intro ?_ ?_) | simp (maxSteps := 10000000) (disch := ((try simp only [len_pushv, len_put, len_putB, List.length_take, List.length_drop, List.length_append, List.length_map, List.length_replicate, List.length_set, List.length_cons, List.length_nil, true_and, and_true]); first | done | omega | (repeat' (first | exact St.le.refl _ | assumption | refine le_pushv ?_ | refine le_put ?_ (by first | omega | (simp only [len_pushv, len_put]; omega)))))) only [W, Gives, pinsAfter, ↓reduceIte, Nat.reduceEqDiff, Nat.reduceAdd, Nat.reduceMul, Nat.reduceSub, ne_eq, Int.reduceEq, Int.reduceNeg, Int.reduceToNat, Int.reduceAdd, Int.reduceSub, Int.reduceMul, Int.reduceDiv, Int.reduceMod, Int.reduceLT, Int.reduceLE, Nat.reduceLeDiff, Nat.reduceBEq, Nat.reduceLT, code_pax_Number, code_pax_Number_k0]))
    exact ret_same rfl ⟨rfl, by rw [← hv, e]; rfl⟩
end Go.Proofs.YtnfiihdebonadaaGreatDoor.Abs
