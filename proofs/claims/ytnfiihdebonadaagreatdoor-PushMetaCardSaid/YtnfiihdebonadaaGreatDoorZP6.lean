import Derived.Test.YtnfiihdebonadaaGreatDoorZP5
set_option linter.unusedSimpArgs false
set_option linter.unusedVariables false
set_option linter.unusedSectionVars false
namespace Go.Proofs.YtnfiihdebonadaaGreatDoor.Abs

theorem octRun_le : ∀ (l : List UInt8) (n k : Nat), n ≤ 9223372036854775807 → octRun n l = some k → k ≤ 9223372036854775807
  | [], n, k, h, e => by simp only [octRun, Option.some.injEq] at e; omega
  | b :: r, n, k, h, e => by
    have hb := UInt8.toNat_lt b
    rw [octRun] at e
    split at e
    · split at e
      · cases e
      · exact octRun_le r _ k (by omega) e
    · split at e
      · cases e; exact h
      · cases e
theorem binRun_in64 : ∀ (l : List UInt8) (n k : Int), in64 n → binRun n l = some k → in64 k
  | [], n, k, h, e => by simp only [binRun, Option.some.injEq] at e; rw [← e]; exact h
  | b :: r, n, k, h, e => by
    have hb := UInt8.toNat_lt b
    rw [binRun] at e
    split at e
    · cases e
    · exact binRun_in64 r _ k (by constructor <;> omega) e
theorem octAll_in64 {l : List UInt8} {n : Int} (h : octAll l = some n) : in64 n := by
  unfold octAll at h
  split at h
  · unfold binParse at h
    split at h
    · exact binRun_in64 _ _ _ (by constructor <;> omega) h
    · split at h
      · exact binRun_in64 _ _ _ (by constructor <;> omega) h
      · cases h
  · cases h2 : octParse l with
    | none => rw [h2] at h; cases h
    | some k =>
      rw [h2] at h
      injection h with h
      subst h
      have := octRun_le _ _ _ (by omega) h2
      constructor <;> (dsimp only; omega)
theorem textOf_len (l : List UInt8) : (textOf l).length ≤ l.length := (cut_len l [0]).1
theorem Hdr.ok_zero : Hdr.zero.ok := by
  constructor <;> first | (simp [Hdr.zero]; done) | (constructor <;> simp [Hdr.zero])
theorem put_row {S : St} {p : Nat} {m : PSt} {xb xt xo g l : AV} (hg : S.get p = (0, .row (prow m xb xt xo g l))) (hs : PS S p m xb xt xo g l) (m' : PSt)
    (e1 : m'.block = m.block) (e2 : m'.text = m.text) (e3 : m'.ahead.glob = m.ahead.glob) (e4 : m'.ahead.loc = m.ahead.loc) (e5 : m'.out = m.out) : PMem (S.put p (0, .row (prow m' xb xt xo g l))) p m' ∧ PFr S (S.put p (0, .row (prow m' xb xt xo g l))) p :=
  done_row hg hs (get_put_at hs.hp) (by rw [len_put]; omega) (fun i _ h => get_put_no h) e1 e2 e3 e4 e5
structure Hdr.good (h : Hdr) : Prop where
  ok : h.ok
  form : 0 ≤ h.form ∧ h.form ≤ 2
  full : h.pref.length + h.name.length ≤ 1000000
theorem decodeH_good (l : List UInt8) : (decodeH l).2.good := by
  have z : Hdr.zero.good := ⟨Hdr.ok_zero, by simp [Hdr.zero], by simp [Hdr.zero]⟩
  unfold decodeH
  split
  · exact z
  · rename_i h1
    split
    · exact z
    · split
      · rename_i mode uid gid size mtime m1 m2 m3 m4 m5
        have f : ∀ a b, (textOf (fld l a b)).length ≤ 512 := fun a b => by
          have := textOf_len (fld l a b); have := fld_len l a b; omega
        have e0 : Hdr.good ⟨0, textOf (fld l 0 100), textOf (fld l 157 257), [], [], [], l.getD 156 0, mode, uid, gid, size, mtime⟩ :=
          ⟨⟨by have := f 0 100; simp only; omega, by have := f 157 257; simp only; omega, by simp, by simp, by simp, octAll_in64 m1, octAll_in64 m2, octAll_in64 m3, octAll_in64 m4, octAll_in64 m5⟩, by simp, by have := f 0 100; simp only [List.length_nil]; omega⟩
        have g1 := f 345 500
        have g2 := f 265 297
        have g3 := f 297 329
        have g4 := f 0 100
        unfold withForm
        split
        · exact ⟨⟨e0.ok.name, e0.ok.link, by simp only; omega, by simp only; omega, by simp only; omega, e0.ok.mode, e0.ok.uid, e0.ok.gid, e0.ok.size, e0.ok.mtime⟩, by simp, by simp only; omega⟩
        · split
          · exact ⟨⟨e0.ok.name, e0.ok.link, by simp, by simp only; omega, by simp only; omega, e0.ok.mode, e0.ok.uid, e0.ok.gid, e0.ok.size, e0.ok.mtime⟩, by simp, by simp only [List.length_nil]; omega⟩
          · exact e0
      · exact z

/-- A header that is whole, and not blank. -/
def headC (m : PSt) (h : Hdr) : PSt :=
  if m.cls = 0 then badM m 80
  else if m.cls = 1 then thingM m h
  else if h.size < 0 then badM m 90
  else if 8192 < h.size then badM m 2
  else if h.size = 0 then toldM { m with state := 1, left := h.size, pad := padOf h.size, text := [] }
  else { m with state := 1, left := h.size, pad := padOf h.size, text := [] }
def headT (m : PSt) (r : Nat × Hdr) : PSt := if r.1 ≠ 0 then badM m r.1 else headC { m with cls := classOf r.2.typ.toNat } r.2
def headM (m : PSt) : PSt :=
  if blankH m.block = true then
    if m.blank = true then { sayM { m with state := 4, done := true } (.mk0 4 none) with blank := true }
    else { m with blank := true }
  else if m.blank = true then badM m 120
  else headT m (decodeH m.block)

set_option maxHeartbeats 1000000 in
theorem push_head {W0 : World} (G : Glob W0) {S : St} {p : Nat} {m : PSt} (hm : PMem S p m) (hl : m.out.length ≤ 900000) (ha : AhOk m.ahead) (hb : m.block.length = 512) {Q : AV → St → Prop}
    (hQ : ∀ S', PMem S' p (headM m) → PFr S S' p → Q (.tup []) S') : CallsA Pr W0 Fn.push_Parser_head [.ptr p 0 0] S Q := by
  have hm0 := hm
  obtain ⟨xb, xt, xo, g, l, hg, hs⟩ := hm
  have hp := hs.hp
  have hbb : Bytes S xb m.block := hs.sb.holds
  refine in_push_Parser_head (by simp) ?_
  (repeat' (first | (with_reducible refine @Br_pos _ _ _ _ _ _ (by first | assumption | omega) ?_) | (with_reducible refine @Br_neg _ _ _ _ _ _ (by first | assumption | omega) ?_) | (with_reducible refine @Br_dec _ _ _ _ _ _ (fun _ => ?_) (fun _ => ?_)) | (with_reducible refine Br_bt (by assumption) ?_) | (with_reducible refine Br_bf (by assumption) ?_) | (with_reducible refine Br_b (fun _ => ?_) (fun _ => ?_)) | (with_reducible refine IfK_pos (by first | assumption | omega) ?_) | (with_reducible refine IfK_neg (by first | assumption | omega) ?_) | (with_reducible refine IfK_bf (by assumption) ?_) | (with_reducible refine IfK_dec (fun _ => ?_) (fun _ => ?_)) | (with_reducible refine And.intro ?_ ?_) | simp (maxSteps := 10000000) (disch := ((try simp only [len_pushv, len_put, len_putB, List.length_take, List.length_drop, List.length_append, List.length_map, List.length_replicate, List.length_set, List.length_cons, List.length_nil, true_and, and_true]); first | done | omega | (repeat' (first | exact St.le.refl _ | assumption | refine le_pushv ?_ | refine le_put ?_ (by first | omega | (simp only [len_pushv, len_put]; omega)))))) only [W, Gives, pinsAfter, ↓reduceIte, Nat.reduceEqDiff, Nat.reduceAdd, Nat.reduceMul, Nat.reduceSub, ne_eq, Int.reduceEq, Int.reduceNeg, Int.reduceToNat, Int.reduceAdd, Int.reduceSub, Int.reduceMul, Int.reduceDiv, Int.reduceMod, Int.reduceLT, Int.reduceLE, Nat.reduceLeDiff, Nat.reduceBEq, Nat.reduceLT, code_push_Parser_head, code_push_Parser_head_k0, code_push_Parser_head_t0, code_push_Parser_head_t1, code_push_Parser_head_t2, code_push_Parser_head_t3, code_push_Parser_head_t4, code_push_Parser_head_k1, code_push_Parser_head_k2, code_push_Parser_head_k3, hg, prow]))
  refine (head_Blank hbb (by omega)).go ?_
  cases hk : blankH m.block with
  | true =>
    cases hbl : m.blank with
    | true =>
      (repeat' (first | (with_reducible refine @Br_pos _ _ _ _ _ _ (by first | assumption | omega) ?_) | (with_reducible refine @Br_neg _ _ _ _ _ _ (by first | assumption | omega) ?_) | (with_reducible refine @Br_dec _ _ _ _ _ _ (fun _ => ?_) (fun _ => ?_)) | (with_reducible refine Br_bt (by assumption) ?_) | (with_reducible refine Br_bf (by assumption) ?_) | (with_reducible refine Br_b (fun _ => ?_) (fun _ => ?_)) | (with_reducible refine IfK_pos (by first | assumption | omega) ?_) | (with_reducible refine IfK_neg (by first | assumption | omega) ?_) | (with_reducible refine IfK_bf (by assumption) ?_) | (with_reducible refine IfK_dec (fun _ => ?_) (fun _ => ?_)) | (with_reducible refine And.intro ?_ ?_) | simp (maxSteps := 10000000) (disch := ((try simp only [len_pushv, len_put, len_putB, List.length_take, List.length_drop, List.length_append, List.length_map, List.length_replicate, List.length_set, List.length_cons, List.length_nil, true_and, and_true]); first | done | omega | (repeat' (first | exact St.le.refl _ | assumption | refine le_pushv ?_ | refine le_put ?_ (by first | omega | (simp only [len_pushv, len_put]; omega)))))) only [W, Gives, pinsAfter, ↓reduceIte, Nat.reduceEqDiff, Nat.reduceAdd, Nat.reduceMul, Nat.reduceSub, ne_eq, Int.reduceEq, Int.reduceNeg, Int.reduceToNat, Int.reduceAdd, Int.reduceSub, Int.reduceMul, Int.reduceDiv, Int.reduceMod, Int.reduceLT, Int.reduceLE, Nat.reduceLeDiff, Nat.reduceBEq, Nat.reduceLT, code_push_Parser_head, code_push_Parser_head_k0, code_push_Parser_head_t0, code_push_Parser_head_t1, code_push_Parser_head_t2, code_push_Parser_head_t3, code_push_Parser_head_t4, code_push_Parser_head_k1, code_push_Parser_head_k2, code_push_Parser_head_k3, hg, prow]))
      obtain ⟨h1, h2⟩ := put_row hg hs { m with state := 4, done := true } rfl rfl rfl rfl rfl
      refine push_say h1 (e := .mk0 4 none) (d := .list true 0 []) (bytes_nil _) rfl (fun i h => h.elim) (by show m.out.length ≤ 1000000; omega) fun S1 h3 h4 => ?_
      obtain ⟨xb3, xt3, xo3, g3, l3, hg3, hs3⟩ := h3
      have hp3 := hs3.hp
      (repeat' (first | (with_reducible refine @Br_pos _ _ _ _ _ _ (by first | assumption | omega) ?_) | (with_reducible refine @Br_neg _ _ _ _ _ _ (by first | assumption | omega) ?_) | (with_reducible refine @Br_dec _ _ _ _ _ _ (fun _ => ?_) (fun _ => ?_)) | (with_reducible refine Br_bt (by assumption) ?_) | (with_reducible refine Br_bf (by assumption) ?_) | (with_reducible refine Br_b (fun _ => ?_) (fun _ => ?_)) | (with_reducible refine IfK_pos (by first | assumption | omega) ?_) | (with_reducible refine IfK_neg (by first | assumption | omega) ?_) | (with_reducible refine IfK_bf (by assumption) ?_) | (with_reducible refine IfK_dec (fun _ => ?_) (fun _ => ?_)) | (with_reducible refine And.intro ?_ ?_) | simp (maxSteps := 10000000) (disch := ((try simp only [len_pushv, len_put, len_putB, List.length_take, List.length_drop, List.length_append, List.length_map, List.length_replicate, List.length_set, List.length_cons, List.length_nil, true_and, and_true]); first | done | omega | (repeat' (first | exact St.le.refl _ | assumption | refine le_pushv ?_ | refine le_put ?_ (by first | omega | (simp only [len_pushv, len_put]; omega)))))) only [W, Gives, pinsAfter, ↓reduceIte, Nat.reduceEqDiff, Nat.reduceAdd, Nat.reduceMul, Nat.reduceSub, ne_eq, Int.reduceEq, Int.reduceNeg, Int.reduceToNat, Int.reduceAdd, Int.reduceSub, Int.reduceMul, Int.reduceDiv, Int.reduceMod, Int.reduceLT, Int.reduceLE, Nat.reduceLeDiff, Nat.reduceBEq, Nat.reduceLT, code_push_Parser_head, code_push_Parser_head_k0, code_push_Parser_head_t0, code_push_Parser_head_t1, code_push_Parser_head_t2, code_push_Parser_head_t3, code_push_Parser_head_t4, code_push_Parser_head_k1, code_push_Parser_head_k2, code_push_Parser_head_k3, hg3, prow]))
      obtain ⟨h5, h6⟩ := put_row hg3 hs3 { sayM { m with state := 4, done := true } (.mk0 4 none) with blank := true } rfl rfl rfl rfl rfl
      refine ret_stay fun _ _ => hQ _ ?_ (h2.trans (h4.trans h6))
      rw [headM, if_pos hk, if_pos hbl]; exact h5
    | false =>
      (repeat' (first | (with_reducible refine @Br_pos _ _ _ _ _ _ (by first | assumption | omega) ?_) | (with_reducible refine @Br_neg _ _ _ _ _ _ (by first | assumption | omega) ?_) | (with_reducible refine @Br_dec _ _ _ _ _ _ (fun _ => ?_) (fun _ => ?_)) | (with_reducible refine Br_bt (by assumption) ?_) | (with_reducible refine Br_bf (by assumption) ?_) | (with_reducible refine Br_b (fun _ => ?_) (fun _ => ?_)) | (with_reducible refine IfK_pos (by first | assumption | omega) ?_) | (with_reducible refine IfK_neg (by first | assumption | omega) ?_) | (with_reducible refine IfK_bf (by assumption) ?_) | (with_reducible refine IfK_dec (fun _ => ?_) (fun _ => ?_)) | (with_reducible refine And.intro ?_ ?_) | simp (maxSteps := 10000000) (disch := ((try simp only [len_pushv, len_put, len_putB, List.length_take, List.length_drop, List.length_append, List.length_map, List.length_replicate, List.length_set, List.length_cons, List.length_nil, true_and, and_true]); first | done | omega | (repeat' (first | exact St.le.refl _ | assumption | refine le_pushv ?_ | refine le_put ?_ (by first | omega | (simp only [len_pushv, len_put]; omega)))))) only [W, Gives, pinsAfter, ↓reduceIte, Nat.reduceEqDiff, Nat.reduceAdd, Nat.reduceMul, Nat.reduceSub, ne_eq, Int.reduceEq, Int.reduceNeg, Int.reduceToNat, Int.reduceAdd, Int.reduceSub, Int.reduceMul, Int.reduceDiv, Int.reduceMod, Int.reduceLT, Int.reduceLE, Nat.reduceLeDiff, Nat.reduceBEq, Nat.reduceLT, code_push_Parser_head, code_push_Parser_head_k0, code_push_Parser_head_t0, code_push_Parser_head_t1, code_push_Parser_head_t2, code_push_Parser_head_t3, code_push_Parser_head_t4, code_push_Parser_head_k1, code_push_Parser_head_k2, code_push_Parser_head_k3, hg, prow]))
      obtain ⟨h5, h6⟩ := put_row hg hs { m with blank := true } rfl rfl rfl rfl rfl
      refine ret_stay fun _ _ => hQ _ ?_ h6
      rw [headM, if_pos hk, if_neg (by rw [hbl]; decide)]; exact h5
  | false =>
  have hk' : ¬ blankH m.block = true := by rw [hk]; decide
  cases hbl : m.blank with
  | true =>
    (repeat' (first | (with_reducible refine @Br_pos _ _ _ _ _ _ (by first | assumption | omega) ?_) | (with_reducible refine @Br_neg _ _ _ _ _ _ (by first | assumption | omega) ?_) | (with_reducible refine @Br_dec _ _ _ _ _ _ (fun _ => ?_) (fun _ => ?_)) | (with_reducible refine Br_bt (by assumption) ?_) | (with_reducible refine Br_bf (by assumption) ?_) | (with_reducible refine Br_b (fun _ => ?_) (fun _ => ?_)) | (with_reducible refine IfK_pos (by first | assumption | omega) ?_) | (with_reducible refine IfK_neg (by first | assumption | omega) ?_) | (with_reducible refine IfK_bf (by assumption) ?_) | (with_reducible refine IfK_dec (fun _ => ?_) (fun _ => ?_)) | (with_reducible refine And.intro ?_ ?_) | simp (maxSteps := 10000000) (disch := ((try simp only [len_pushv, len_put, len_putB, List.length_take, List.length_drop, List.length_append, List.length_map, List.length_replicate, List.length_set, List.length_cons, List.length_nil, true_and, and_true]); first | done | omega | (repeat' (first | exact St.le.refl _ | assumption | refine le_pushv ?_ | refine le_put ?_ (by first | omega | (simp only [len_pushv, len_put]; omega)))))) only [W, Gives, pinsAfter, ↓reduceIte, Nat.reduceEqDiff, Nat.reduceAdd, Nat.reduceMul, Nat.reduceSub, ne_eq, Int.reduceEq, Int.reduceNeg, Int.reduceToNat, Int.reduceAdd, Int.reduceSub, Int.reduceMul, Int.reduceDiv, Int.reduceMod, Int.reduceLT, Int.reduceLE, Nat.reduceLeDiff, Nat.reduceBEq, Nat.reduceLT, code_push_Parser_head, code_push_Parser_head_k0, code_push_Parser_head_t0, code_push_Parser_head_t1, code_push_Parser_head_t2, code_push_Parser_head_t3, code_push_Parser_head_t4, code_push_Parser_head_k1, code_push_Parser_head_k2, code_push_Parser_head_k3, hg, prow]))
    refine push_bad (e := 120) hm0 (by omega) fun S2 h2 h3 => ?_
    (repeat' (first | (with_reducible refine @Br_pos _ _ _ _ _ _ (by first | assumption | omega) ?_) | (with_reducible refine @Br_neg _ _ _ _ _ _ (by first | assumption | omega) ?_) | (with_reducible refine @Br_dec _ _ _ _ _ _ (fun _ => ?_) (fun _ => ?_)) | (with_reducible refine Br_bt (by assumption) ?_) | (with_reducible refine Br_bf (by assumption) ?_) | (with_reducible refine Br_b (fun _ => ?_) (fun _ => ?_)) | (with_reducible refine IfK_pos (by first | assumption | omega) ?_) | (with_reducible refine IfK_neg (by first | assumption | omega) ?_) | (with_reducible refine IfK_bf (by assumption) ?_) | (with_reducible refine IfK_dec (fun _ => ?_) (fun _ => ?_)) | (with_reducible refine And.intro ?_ ?_) | simp (maxSteps := 10000000) (disch := ((try simp only [len_pushv, len_put, len_putB, List.length_take, List.length_drop, List.length_append, List.length_map, List.length_replicate, List.length_set, List.length_cons, List.length_nil, true_and, and_true]); first | done | omega | (repeat' (first | exact St.le.refl _ | assumption | refine le_pushv ?_ | refine le_put ?_ (by first | omega | (simp only [len_pushv, len_put]; omega)))))) only [W, Gives, pinsAfter, ↓reduceIte, Nat.reduceEqDiff, Nat.reduceAdd, Nat.reduceMul, Nat.reduceSub, ne_eq, Int.reduceEq, Int.reduceNeg, Int.reduceToNat, Int.reduceAdd, Int.reduceSub, Int.reduceMul, Int.reduceDiv, Int.reduceMod, Int.reduceLT, Int.reduceLE, Nat.reduceLeDiff, Nat.reduceBEq, Nat.reduceLT, code_push_Parser_head, code_push_Parser_head_k0, code_push_Parser_head_t0, code_push_Parser_head_t1, code_push_Parser_head_t2, code_push_Parser_head_t3, code_push_Parser_head_t4, code_push_Parser_head_k1, code_push_Parser_head_k2, code_push_Parser_head_k3]))
    refine ret_stay fun _ _ => hQ _ ?_ h3
    rw [headM, if_neg hk', if_pos hbl]; exact h2
  | false =>
  have hbl' : ¬ m.blank = true := by rw [hbl]; decide
  (repeat' (first | (with_reducible refine @Br_pos _ _ _ _ _ _ (by first | assumption | omega) ?_) | (with_reducible refine @Br_neg _ _ _ _ _ _ (by first | assumption | omega) ?_) | (with_reducible refine @Br_dec _ _ _ _ _ _ (fun _ => ?_) (fun _ => ?_)) | (with_reducible refine Br_bt (by assumption) ?_) | (with_reducible refine Br_bf (by assumption) ?_) | (with_reducible refine Br_b (fun _ => ?_) (fun _ => ?_)) | (with_reducible refine IfK_pos (by first | assumption | omega) ?_) | (with_reducible refine IfK_neg (by first | assumption | omega) ?_) | (with_reducible refine IfK_bf (by assumption) ?_) | (with_reducible refine IfK_dec (fun _ => ?_) (fun _ => ?_)) | (with_reducible refine And.intro ?_ ?_) | simp (maxSteps := 10000000) (disch := ((try simp only [len_pushv, len_put, len_putB, List.length_take, List.length_drop, List.length_append, List.length_map, List.length_replicate, List.length_set, List.length_cons, List.length_nil, true_and, and_true]); first | done | omega | (repeat' (first | exact St.le.refl _ | assumption | refine le_pushv ?_ | refine le_put ?_ (by first | omega | (simp only [len_pushv, len_put]; omega)))))) only [W, Gives, pinsAfter, ↓reduceIte, Nat.reduceEqDiff, Nat.reduceAdd, Nat.reduceMul, Nat.reduceSub, ne_eq, Int.reduceEq, Int.reduceNeg, Int.reduceToNat, Int.reduceAdd, Int.reduceSub, Int.reduceMul, Int.reduceDiv, Int.reduceMod, Int.reduceLT, Int.reduceLE, Nat.reduceLeDiff, Nat.reduceBEq, Nat.reduceLT, code_push_Parser_head, code_push_Parser_head_k0, code_push_Parser_head_t0, code_push_Parser_head_t1, code_push_Parser_head_t2, code_push_Parser_head_t3, code_push_Parser_head_t4, code_push_Parser_head_k1, code_push_Parser_head_k2, code_push_Parser_head_k3, hg, prow]))
  refine (head_Decode G hbb hs.sb.under (by omega)).go ?_
  have hgood := decodeH_good m.block
  have e1 : headM m = headT m (decodeH m.block) := by rw [headM, if_neg hk', if_neg hbl']
  generalize hr : decodeH m.block = r at *
  by_cases r1 : r.1 = 0
  rotate_left
  · (repeat' (first | (with_reducible refine @Br_pos _ _ _ _ _ _ (by first | assumption | omega) ?_) | (with_reducible refine @Br_neg _ _ _ _ _ _ (by first | assumption | omega) ?_) | (with_reducible refine @Br_dec _ _ _ _ _ _ (fun _ => ?_) (fun _ => ?_)) | (with_reducible refine Br_bt (by assumption) ?_) | (with_reducible refine Br_bf (by assumption) ?_) | (with_reducible refine Br_b (fun _ => ?_) (fun _ => ?_)) | (with_reducible refine IfK_pos (by first | assumption | omega) ?_) | (with_reducible refine IfK_neg (by first | assumption | omega) ?_) | (with_reducible refine IfK_bf (by assumption) ?_) | (with_reducible refine IfK_dec (fun _ => ?_) (fun _ => ?_)) | (with_reducible refine And.intro ?_ ?_) | simp (maxSteps := 10000000) (disch := ((try simp only [len_pushv, len_put, len_putB, List.length_take, List.length_drop, List.length_append, List.length_map, List.length_replicate, List.length_set, List.length_cons, List.length_nil, true_and, and_true]); first | done | omega | (repeat' (first | exact St.le.refl _ | assumption | refine le_pushv ?_ | refine le_put ?_ (by first | omega | (simp only [len_pushv, len_put]; omega)))))) only [W, Gives, pinsAfter, ↓reduceIte, Nat.reduceEqDiff, Nat.reduceAdd, Nat.reduceMul, Nat.reduceSub, ne_eq, Int.reduceEq, Int.reduceNeg, Int.reduceToNat, Int.reduceAdd, Int.reduceSub, Int.reduceMul, Int.reduceDiv, Int.reduceMod, Int.reduceLT, Int.reduceLE, Nat.reduceLeDiff, Nat.reduceBEq, Nat.reduceLT, code_push_Parser_head, code_push_Parser_head_k0, code_push_Parser_head_t0, code_push_Parser_head_t1, code_push_Parser_head_t2, code_push_Parser_head_t3, code_push_Parser_head_t4, code_push_Parser_head_k1, code_push_Parser_head_k2, code_push_Parser_head_k3, hg, prow, Hdr.cells]))
    have f0 : S.le (S.pushv 0 (.row r.2.cells)) := (by repeat' (first | exact St.le.refl _ | assumption | refine le_pushv ?_ | refine le_put ?_ (by first | omega | (simp only [len_pushv, len_put]; omega)) | refine le_trunc ?_ (by first | omega | (simp only [len_pushv, len_put]; omega))))
    have hg0 : (S.pushv 0 (.row r.2.cells)).get p = (0, .row (prow m xb xt xo g l)) := by rw [f0.2 p hp, hg]
    refine push_bad ⟨xb, xt, xo, g, l, hg0, hs.keep f0.1 (fun i hi _ => f0.2 i hi) rfl rfl rfl rfl rfl⟩ (by omega) fun S2 h2 h3 => ?_
    (repeat' (first | (with_reducible refine @Br_pos _ _ _ _ _ _ (by first | assumption | omega) ?_) | (with_reducible refine @Br_neg _ _ _ _ _ _ (by first | assumption | omega) ?_) | (with_reducible refine @Br_dec _ _ _ _ _ _ (fun _ => ?_) (fun _ => ?_)) | (with_reducible refine Br_bt (by assumption) ?_) | (with_reducible refine Br_bf (by assumption) ?_) | (with_reducible refine Br_b (fun _ => ?_) (fun _ => ?_)) | (with_reducible refine IfK_pos (by first | assumption | omega) ?_) | (with_reducible refine IfK_neg (by first | assumption | omega) ?_) | (with_reducible refine IfK_bf (by assumption) ?_) | (with_reducible refine IfK_dec (fun _ => ?_) (fun _ => ?_)) | (with_reducible refine And.intro ?_ ?_) | simp (maxSteps := 10000000) (disch := ((try simp only [len_pushv, len_put, len_putB, List.length_take, List.length_drop, List.length_append, List.length_map, List.length_replicate, List.length_set, List.length_cons, List.length_nil, true_and, and_true]); first | done | omega | (repeat' (first | exact St.le.refl _ | assumption | refine le_pushv ?_ | refine le_put ?_ (by first | omega | (simp only [len_pushv, len_put]; omega)))))) only [W, Gives, pinsAfter, ↓reduceIte, Nat.reduceEqDiff, Nat.reduceAdd, Nat.reduceMul, Nat.reduceSub, ne_eq, Int.reduceEq, Int.reduceNeg, Int.reduceToNat, Int.reduceAdd, Int.reduceSub, Int.reduceMul, Int.reduceDiv, Int.reduceMod, Int.reduceLT, Int.reduceLE, Nat.reduceLeDiff, Nat.reduceBEq, Nat.reduceLT, code_push_Parser_head, code_push_Parser_head_k0, code_push_Parser_head_t0, code_push_Parser_head_t1, code_push_Parser_head_t2, code_push_Parser_head_t3, code_push_Parser_head_t4, code_push_Parser_head_k1, code_push_Parser_head_k2, code_push_Parser_head_k3]))
    refine ret_stay fun _ _ => hQ _ ?_ ((PFr.of hg hg0 f0.1 (fun i hi _ => f0.2 i hi) fun i h => .inl h).trans h3)
    rw [e1, headT, if_pos r1]; exact h2
  (repeat' (first | (with_reducible refine @Br_pos _ _ _ _ _ _ (by first | assumption | omega) ?_) | (with_reducible refine @Br_neg _ _ _ _ _ _ (by first | assumption | omega) ?_) | (with_reducible refine @Br_dec _ _ _ _ _ _ (fun _ => ?_) (fun _ => ?_)) | (with_reducible refine Br_bt (by assumption) ?_) | (with_reducible refine Br_bf (by assumption) ?_) | (with_reducible refine Br_b (fun _ => ?_) (fun _ => ?_)) | (with_reducible refine IfK_pos (by first | assumption | omega) ?_) | (with_reducible refine IfK_neg (by first | assumption | omega) ?_) | (with_reducible refine IfK_bf (by assumption) ?_) | (with_reducible refine IfK_dec (fun _ => ?_) (fun _ => ?_)) | (with_reducible refine And.intro ?_ ?_) | simp (maxSteps := 10000000) (disch := ((try simp only [len_pushv, len_put, len_putB, List.length_take, List.length_drop, List.length_append, List.length_map, List.length_replicate, List.length_set, List.length_cons, List.length_nil, true_and, and_true]); first | done | omega | (repeat' (first | exact St.le.refl _ | assumption | refine le_pushv ?_ | refine le_put ?_ (by first | omega | (simp only [len_pushv, len_put]; omega)))))) only [W, Gives, pinsAfter, ↓reduceIte, Nat.reduceEqDiff, Nat.reduceAdd, Nat.reduceMul, Nat.reduceSub, ne_eq, Int.reduceEq, Int.reduceNeg, Int.reduceToNat, Int.reduceAdd, Int.reduceSub, Int.reduceMul, Int.reduceDiv, Int.reduceMod, Int.reduceLT, Int.reduceLE, Nat.reduceLeDiff, Nat.reduceBEq, Nat.reduceLT, code_push_Parser_head, code_push_Parser_head_k0, code_push_Parser_head_t0, code_push_Parser_head_t1, code_push_Parser_head_t2, code_push_Parser_head_t3, code_push_Parser_head_t4, code_push_Parser_head_k1, code_push_Parser_head_k2, code_push_Parser_head_k3, hg, prow, Hdr.cells, r1]))
  refine (kind_Class (UInt8.toNat_lt _)).go ?_
  rw [headT, if_neg (by omega)] at e1
  have hhc : S.get p = S.get p := rfl
  generalize hc : classOf r.2.typ.toNat = c at *
  have hH : ∀ {b : Nat × Blk}, ((S.pushv 0 (.row r.2.cells)).put p b).get S.len = (0, .row r.2.cells) := by
    intro b; rw [get_put_no (by omega), get_pushv_at rfl]
  have f0 : S.le (S.pushv 0 (.row r.2.cells)) := (by repeat' (first | exact St.le.refl _ | assumption | refine le_pushv ?_ | refine le_put ?_ (by first | omega | (simp only [len_pushv, len_put]; omega)) | refine le_trunc ?_ (by first | omega | (simp only [len_pushv, len_put]; omega))))
  have hg0 : (S.pushv 0 (.row r.2.cells)).get p = (0, .row (prow m xb xt xo g l)) := by rw [f0.2 p hp, hg]
  have hs0 : PS (S.pushv 0 (.row r.2.cells)) p m xb xt xo g l := hs.keep f0.1 (fun i hi _ => f0.2 i hi) rfl rfl rfl rfl rfl
  have f1 : PFr S (S.pushv 0 (.row r.2.cells)) p := PFr.of hg hg0 f0.1 (fun i hi _ => f0.2 i hi) fun i h => .inl h
  obtain ⟨h5, h6⟩ := put_row hg0 hs0 { m with cls := c } rfl rfl rfl rfl rfl
  rw [put_pushv_ne hp] at h5 h6
  (repeat' (first | (with_reducible refine @Br_pos _ _ _ _ _ _ (by first | assumption | omega) ?_) | (with_reducible refine @Br_neg _ _ _ _ _ _ (by first | assumption | omega) ?_) | (with_reducible refine @Br_dec _ _ _ _ _ _ (fun _ => ?_) (fun _ => ?_)) | (with_reducible refine Br_bt (by assumption) ?_) | (with_reducible refine Br_bf (by assumption) ?_) | (with_reducible refine Br_b (fun _ => ?_) (fun _ => ?_)) | (with_reducible refine IfK_pos (by first | assumption | omega) ?_) | (with_reducible refine IfK_neg (by first | assumption | omega) ?_) | (with_reducible refine IfK_bf (by assumption) ?_) | (with_reducible refine IfK_dec (fun _ => ?_) (fun _ => ?_)) | (with_reducible refine And.intro ?_ ?_) | simp (maxSteps := 10000000) (disch := ((try simp only [len_pushv, len_put, len_putB, List.length_take, List.length_drop, List.length_append, List.length_map, List.length_replicate, List.length_set, List.length_cons, List.length_nil, true_and, and_true]); first | done | omega | (repeat' (first | exact St.le.refl _ | assumption | refine le_pushv ?_ | refine le_put ?_ (by first | omega | (simp only [len_pushv, len_put]; omega)))))) only [W, Gives, pinsAfter, ↓reduceIte, Nat.reduceEqDiff, Nat.reduceAdd, Nat.reduceMul, Nat.reduceSub, ne_eq, Int.reduceEq, Int.reduceNeg, Int.reduceToNat, Int.reduceAdd, Int.reduceSub, Int.reduceMul, Int.reduceDiv, Int.reduceMod, Int.reduceLT, Int.reduceLE, Nat.reduceLeDiff, Nat.reduceBEq, Nat.reduceLT, code_push_Parser_head, code_push_Parser_head_k0, code_push_Parser_head_t0, code_push_Parser_head_t1, code_push_Parser_head_t2, code_push_Parser_head_t3, code_push_Parser_head_t4, code_push_Parser_head_k1, code_push_Parser_head_k2, code_push_Parser_head_k3, hg, prow, Hdr.cells, r1]))
  · rename_i hc0
    refine push_bad (e := 80) h5 (by show m.out.length ≤ 1000000; omega) fun S2 h2 h3 => ?_
    (repeat' (first | (with_reducible refine @Br_pos _ _ _ _ _ _ (by first | assumption | omega) ?_) | (with_reducible refine @Br_neg _ _ _ _ _ _ (by first | assumption | omega) ?_) | (with_reducible refine @Br_dec _ _ _ _ _ _ (fun _ => ?_) (fun _ => ?_)) | (with_reducible refine Br_bt (by assumption) ?_) | (with_reducible refine Br_bf (by assumption) ?_) | (with_reducible refine Br_b (fun _ => ?_) (fun _ => ?_)) | (with_reducible refine IfK_pos (by first | assumption | omega) ?_) | (with_reducible refine IfK_neg (by first | assumption | omega) ?_) | (with_reducible refine IfK_bf (by assumption) ?_) | (with_reducible refine IfK_dec (fun _ => ?_) (fun _ => ?_)) | (with_reducible refine And.intro ?_ ?_) | simp (maxSteps := 10000000) (disch := ((try simp only [len_pushv, len_put, len_putB, List.length_take, List.length_drop, List.length_append, List.length_map, List.length_replicate, List.length_set, List.length_cons, List.length_nil, true_and, and_true]); first | done | omega | (repeat' (first | exact St.le.refl _ | assumption | refine le_pushv ?_ | refine le_put ?_ (by first | omega | (simp only [len_pushv, len_put]; omega)))))) only [W, Gives, pinsAfter, ↓reduceIte, Nat.reduceEqDiff, Nat.reduceAdd, Nat.reduceMul, Nat.reduceSub, ne_eq, Int.reduceEq, Int.reduceNeg, Int.reduceToNat, Int.reduceAdd, Int.reduceSub, Int.reduceMul, Int.reduceDiv, Int.reduceMod, Int.reduceLT, Int.reduceLE, Nat.reduceLeDiff, Nat.reduceBEq, Nat.reduceLT, code_push_Parser_head, code_push_Parser_head_k0, code_push_Parser_head_t0, code_push_Parser_head_t1, code_push_Parser_head_t2, code_push_Parser_head_t3, code_push_Parser_head_t4, code_push_Parser_head_k1, code_push_Parser_head_k2, code_push_Parser_head_k3]))
    refine ret_stay fun _ _ => hQ _ ?_ (f1.trans (h6.trans h3))
    rw [e1, headC, if_pos (by simp only; omega)]; exact h2
  · rename_i hc0 hc1
    refine push_thing G h5 (by show m.out.length ≤ 900000; omega) (by exact ha) hgood.ok hgood.form hgood.full fun S2 h2 h3 => ?_
    (repeat' (first | (with_reducible refine @Br_pos _ _ _ _ _ _ (by first | assumption | omega) ?_) | (with_reducible refine @Br_neg _ _ _ _ _ _ (by first | assumption | omega) ?_) | (with_reducible refine @Br_dec _ _ _ _ _ _ (fun _ => ?_) (fun _ => ?_)) | (with_reducible refine Br_bt (by assumption) ?_) | (with_reducible refine Br_bf (by assumption) ?_) | (with_reducible refine Br_b (fun _ => ?_) (fun _ => ?_)) | (with_reducible refine IfK_pos (by first | assumption | omega) ?_) | (with_reducible refine IfK_neg (by first | assumption | omega) ?_) | (with_reducible refine IfK_bf (by assumption) ?_) | (with_reducible refine IfK_dec (fun _ => ?_) (fun _ => ?_)) | (with_reducible refine And.intro ?_ ?_) | simp (maxSteps := 10000000) (disch := ((try simp only [len_pushv, len_put, len_putB, List.length_take, List.length_drop, List.length_append, List.length_map, List.length_replicate, List.length_set, List.length_cons, List.length_nil, true_and, and_true]); first | done | omega | (repeat' (first | exact St.le.refl _ | assumption | refine le_pushv ?_ | refine le_put ?_ (by first | omega | (simp only [len_pushv, len_put]; omega)))))) only [W, Gives, pinsAfter, ↓reduceIte, Nat.reduceEqDiff, Nat.reduceAdd, Nat.reduceMul, Nat.reduceSub, ne_eq, Int.reduceEq, Int.reduceNeg, Int.reduceToNat, Int.reduceAdd, Int.reduceSub, Int.reduceMul, Int.reduceDiv, Int.reduceMod, Int.reduceLT, Int.reduceLE, Nat.reduceLeDiff, Nat.reduceBEq, Nat.reduceLT, code_push_Parser_head, code_push_Parser_head_k0, code_push_Parser_head_t0, code_push_Parser_head_t1, code_push_Parser_head_t2, code_push_Parser_head_t3, code_push_Parser_head_t4, code_push_Parser_head_k1, code_push_Parser_head_k2, code_push_Parser_head_k3]))
    refine ret_stay fun _ _ => hQ _ ?_ (f1.trans (h6.trans h3))
    rw [e1, headC, if_neg (by simp only; omega), if_pos (by simp only; omega)]; exact h2
  · rename_i hc0 hc1 hc2
    refine push_bad (e := 90) h5 (by show m.out.length ≤ 1000000; omega) fun S2 h2 h3 => ?_
    (repeat' (first | (with_reducible refine @Br_pos _ _ _ _ _ _ (by first | assumption | omega) ?_) | (with_reducible refine @Br_neg _ _ _ _ _ _ (by first | assumption | omega) ?_) | (with_reducible refine @Br_dec _ _ _ _ _ _ (fun _ => ?_) (fun _ => ?_)) | (with_reducible refine Br_bt (by assumption) ?_) | (with_reducible refine Br_bf (by assumption) ?_) | (with_reducible refine Br_b (fun _ => ?_) (fun _ => ?_)) | (with_reducible refine IfK_pos (by first | assumption | omega) ?_) | (with_reducible refine IfK_neg (by first | assumption | omega) ?_) | (with_reducible refine IfK_bf (by assumption) ?_) | (with_reducible refine IfK_dec (fun _ => ?_) (fun _ => ?_)) | (with_reducible refine And.intro ?_ ?_) | simp (maxSteps := 10000000) (disch := ((try simp only [len_pushv, len_put, len_putB, List.length_take, List.length_drop, List.length_append, List.length_map, List.length_replicate, List.length_set, List.length_cons, List.length_nil, true_and, and_true]); first | done | omega | (repeat' (first | exact St.le.refl _ | assumption | refine le_pushv ?_ | refine le_put ?_ (by first | omega | (simp only [len_pushv, len_put]; omega)))))) only [W, Gives, pinsAfter, ↓reduceIte, Nat.reduceEqDiff, Nat.reduceAdd, Nat.reduceMul, Nat.reduceSub, ne_eq, Int.reduceEq, Int.reduceNeg, Int.reduceToNat, Int.reduceAdd, Int.reduceSub, Int.reduceMul, Int.reduceDiv, Int.reduceMod, Int.reduceLT, Int.reduceLE, Nat.reduceLeDiff, Nat.reduceBEq, Nat.reduceLT, code_push_Parser_head, code_push_Parser_head_k0, code_push_Parser_head_t0, code_push_Parser_head_t1, code_push_Parser_head_t2, code_push_Parser_head_t3, code_push_Parser_head_t4, code_push_Parser_head_k1, code_push_Parser_head_k2, code_push_Parser_head_k3]))
    refine ret_stay fun _ _ => hQ _ ?_ (f1.trans (h6.trans h3))
    rw [e1, headC, if_neg (by simp only; omega), if_neg (by simp only; omega), if_pos hc2]; exact h2
  · rename_i hc0 hc1 hc2 hc3
    refine push_bad (e := 2) h5 (by show m.out.length ≤ 1000000; omega) fun S2 h2 h3 => ?_
    (repeat' (first | (with_reducible refine @Br_pos _ _ _ _ _ _ (by first | assumption | omega) ?_) | (with_reducible refine @Br_neg _ _ _ _ _ _ (by first | assumption | omega) ?_) | (with_reducible refine @Br_dec _ _ _ _ _ _ (fun _ => ?_) (fun _ => ?_)) | (with_reducible refine Br_bt (by assumption) ?_) | (with_reducible refine Br_bf (by assumption) ?_) | (with_reducible refine Br_b (fun _ => ?_) (fun _ => ?_)) | (with_reducible refine IfK_pos (by first | assumption | omega) ?_) | (with_reducible refine IfK_neg (by first | assumption | omega) ?_) | (with_reducible refine IfK_bf (by assumption) ?_) | (with_reducible refine IfK_dec (fun _ => ?_) (fun _ => ?_)) | (with_reducible refine And.intro ?_ ?_) | simp (maxSteps := 10000000) (disch := ((try simp only [len_pushv, len_put, len_putB, List.length_take, List.length_drop, List.length_append, List.length_map, List.length_replicate, List.length_set, List.length_cons, List.length_nil, true_and, and_true]); first | done | omega | (repeat' (first | exact St.le.refl _ | assumption | refine le_pushv ?_ | refine le_put ?_ (by first | omega | (simp only [len_pushv, len_put]; omega)))))) only [W, Gives, pinsAfter, ↓reduceIte, Nat.reduceEqDiff, Nat.reduceAdd, Nat.reduceMul, Nat.reduceSub, ne_eq, Int.reduceEq, Int.reduceNeg, Int.reduceToNat, Int.reduceAdd, Int.reduceSub, Int.reduceMul, Int.reduceDiv, Int.reduceMod, Int.reduceLT, Int.reduceLE, Nat.reduceLeDiff, Nat.reduceBEq, Nat.reduceLT, code_push_Parser_head, code_push_Parser_head_k0, code_push_Parser_head_t0, code_push_Parser_head_t1, code_push_Parser_head_t2, code_push_Parser_head_t3, code_push_Parser_head_t4, code_push_Parser_head_k1, code_push_Parser_head_k2, code_push_Parser_head_k3]))
    refine ret_stay fun _ _ => hQ _ ?_ (f1.trans (h6.trans h3))
    rw [e1, headC, if_neg (by simp only; omega), if_neg (by simp only; omega), if_neg hc2, if_pos hc3]; exact h2
  · rename_i hc0 hc1 hc2 hc3
    have hpad : ∀ {S'}, Gives Pr W0 Fn.entry_Pad [.int .i64 r.2.size] S' (.int .i64 (padOf r.2.size)) := by
      intro S'
      have := entry_Pad (W0 := W0) (S := S') (n := r.2.size.toNat) (by omega)
      rw [Int.toNat_of_nonneg (by omega)] at this
      exact this
    have hs2 : PS (S.pushv 0 (.row r.2.cells)) p { m with cls := c, state := 1, left := r.2.size, pad := padOf r.2.size, text := [] } xb (.list true 0 []) xo g l := hs0.setT ⟨Nat.le_refl _, fun _ _ _ => rfl, fun i h => h.elim⟩ (Sl.nil _ _) rfl rfl rfl rfl
    have hp0 := hs0.hp
    have hg2 : ((S.pushv 0 (.row r.2.cells)).put p (0, .row (prow { m with cls := c, state := 1, left := r.2.size, pad := padOf r.2.size, text := [] } xb (.list true 0 []) xo g l))).get p = (0, .row (prow { m with cls := c, state := 1, left := r.2.size, pad := padOf r.2.size, text := [] } xb (.list true 0 []) xo g l)) := get_put_at hp0
    have h7 : PMem ((S.pushv 0 (.row r.2.cells)).put p (0, .row (prow { m with cls := c, state := 1, left := r.2.size, pad := padOf r.2.size, text := [] } xb (.list true 0 []) xo g l))) p { m with cls := c, state := 1, left := r.2.size, pad := padOf r.2.size, text := [] } := ⟨_, _, _, _, _, hg2, hs2.keep (by rw [len_put]; omega) (fun i hi hne => get_put_no hne) rfl rfl rfl rfl rfl⟩
    have h8 : PFr (S.pushv 0 (.row r.2.cells)) ((S.pushv 0 (.row r.2.cells)).put p (0, .row (prow { m with cls := c, state := 1, left := r.2.size, pad := padOf r.2.size, text := [] } xb (.list true 0 []) xo g l))) p := PFr.of hg0 hg2 (by rw [len_put]; omega) (fun i hi hn => get_put_no fun e => hn (.inl e)) (by
      rintro i (h | h | h | h)
      · exact .inl (.inl h)
      · exact .inl (.inr (.inl h))
      · exact h.elim
      · exact .inl (.inr (.inr (.inr h))))
    rw [put_pushv_ne hp] at h7 h8
    refine hpad.go ?_
    (repeat' (first | (with_reducible refine @Br_pos _ _ _ _ _ _ (by first | assumption | omega) ?_) | (with_reducible refine @Br_neg _ _ _ _ _ _ (by first | assumption | omega) ?_) | (with_reducible refine @Br_dec _ _ _ _ _ _ (fun _ => ?_) (fun _ => ?_)) | (with_reducible refine Br_bt (by assumption) ?_) | (with_reducible refine Br_bf (by assumption) ?_) | (with_reducible refine Br_b (fun _ => ?_) (fun _ => ?_)) | (with_reducible refine IfK_pos (by first | assumption | omega) ?_) | (with_reducible refine IfK_neg (by first | assumption | omega) ?_) | (with_reducible refine IfK_bf (by assumption) ?_) | (with_reducible refine IfK_dec (fun _ => ?_) (fun _ => ?_)) | (with_reducible refine And.intro ?_ ?_) | simp (maxSteps := 10000000) (disch := ((try simp only [len_pushv, len_put, len_putB, List.length_take, List.length_drop, List.length_append, List.length_map, List.length_replicate, List.length_set, List.length_cons, List.length_nil, true_and, and_true]); first | done | omega | (repeat' (first | exact St.le.refl _ | assumption | refine le_pushv ?_ | refine le_put ?_ (by first | omega | (simp only [len_pushv, len_put]; omega)))))) only [W, Gives, pinsAfter, ↓reduceIte, Nat.reduceEqDiff, Nat.reduceAdd, Nat.reduceMul, Nat.reduceSub, ne_eq, Int.reduceEq, Int.reduceNeg, Int.reduceToNat, Int.reduceAdd, Int.reduceSub, Int.reduceMul, Int.reduceDiv, Int.reduceMod, Int.reduceLT, Int.reduceLE, Nat.reduceLeDiff, Nat.reduceBEq, Nat.reduceLT, code_push_Parser_head, code_push_Parser_head_k0, code_push_Parser_head_t0, code_push_Parser_head_t1, code_push_Parser_head_t2, code_push_Parser_head_t3, code_push_Parser_head_t4, code_push_Parser_head_k1, code_push_Parser_head_k2, code_push_Parser_head_k3, hg, prow, Hdr.cells, r1]))
    · rename_i hz
      refine push_told G h7 (by show m.out.length ≤ 900000; omega) (by exact ha) (by simp) fun S2 h2 h3 => ?_
      (repeat' (first | (with_reducible refine @Br_pos _ _ _ _ _ _ (by first | assumption | omega) ?_) | (with_reducible refine @Br_neg _ _ _ _ _ _ (by first | assumption | omega) ?_) | (with_reducible refine @Br_dec _ _ _ _ _ _ (fun _ => ?_) (fun _ => ?_)) | (with_reducible refine Br_bt (by assumption) ?_) | (with_reducible refine Br_bf (by assumption) ?_) | (with_reducible refine Br_b (fun _ => ?_) (fun _ => ?_)) | (with_reducible refine IfK_pos (by first | assumption | omega) ?_) | (with_reducible refine IfK_neg (by first | assumption | omega) ?_) | (with_reducible refine IfK_bf (by assumption) ?_) | (with_reducible refine IfK_dec (fun _ => ?_) (fun _ => ?_)) | (with_reducible refine And.intro ?_ ?_) | simp (maxSteps := 10000000) (disch := ((try simp only [len_pushv, len_put, len_putB, List.length_take, List.length_drop, List.length_append, List.length_map, List.length_replicate, List.length_set, List.length_cons, List.length_nil, true_and, and_true]); first | done | omega | (repeat' (first | exact St.le.refl _ | assumption | refine le_pushv ?_ | refine le_put ?_ (by first | omega | (simp only [len_pushv, len_put]; omega)))))) only [W, Gives, pinsAfter, ↓reduceIte, Nat.reduceEqDiff, Nat.reduceAdd, Nat.reduceMul, Nat.reduceSub, ne_eq, Int.reduceEq, Int.reduceNeg, Int.reduceToNat, Int.reduceAdd, Int.reduceSub, Int.reduceMul, Int.reduceDiv, Int.reduceMod, Int.reduceLT, Int.reduceLE, Nat.reduceLeDiff, Nat.reduceBEq, Nat.reduceLT, code_push_Parser_head, code_push_Parser_head_k0, code_push_Parser_head_t0, code_push_Parser_head_t1, code_push_Parser_head_t2, code_push_Parser_head_t3, code_push_Parser_head_t4, code_push_Parser_head_k1, code_push_Parser_head_k2, code_push_Parser_head_k3]))
      refine ret_stay fun _ _ => hQ _ ?_ (f1.trans (h8.trans h3))
      rw [e1, headC, if_neg (by simp only; omega), if_neg (by simp only; omega), if_neg hc2, if_neg hc3, if_pos hz]; exact h2
    · rename_i hz
      refine ret_stay fun _ _ => hQ _ ?_ (f1.trans h8)
      rw [e1, headC, if_neg (by simp only; omega), if_neg (by simp only; omega), if_neg hc2, if_neg hc3, if_neg hz]; exact h7
end Go.Proofs.YtnfiihdebonadaaGreatDoor.Abs
