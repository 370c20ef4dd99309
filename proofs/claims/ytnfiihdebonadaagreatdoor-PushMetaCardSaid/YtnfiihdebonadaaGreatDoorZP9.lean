import Derived.Test.YtnfiihdebonadaaGreatDoorZP7
set_option linter.unusedSimpArgs false
set_option linter.unusedVariables false
set_option linter.unusedSectionVars false
namespace Go.Proofs.YtnfiihdebonadaaGreatDoor.Abs

def stepN (m : PSt) (k : Nat) : Nat :=
  if m.state = 0 then min (512 - m.block.length) k else if m.state = 1 ∨ m.state = 2 then min m.left.toNat k else min m.pad.toNat k
def stepM (m : PSt) (b : List UInt8) : PSt :=
  if m.state = 0 then stepH m b (stepN m b.length) else if m.state = 1 then stepT m b (stepN m b.length) else if m.state = 2 then stepD m b (stepN m b.length) else stepP m (stepN m b.length)
def feedRun : Nat → PSt → List UInt8 → PSt
  | 0, m, _ => m
  | k + 1, m, b => if b = [] ∨ m.state = 4 then m else feedRun k (stepM m b) (b.drop (stepN m b.length))
def feedM (m : PSt) (b : List UInt8) : PSt := feedRun (b.length + 1) { m with out := [] } b

structure PC (m : PSt) : Prop where
  ah : AhOk m.ahead
  pd : 0 ≤ m.pad ∧ m.pad < 512
/-- What holds of a parser between its calls, but for its block. -/
structure PG (m : PSt) : Prop where
  c : PC m
  st : m.state ≤ 4
  l1 : m.state = 1 → 0 < m.left ∧ m.text.length + m.left ≤ 8192
  l2 : m.state = 2 → 0 < m.left ∧ m.left ≤ 9223372036854775807
  p3 : m.state = 3 → 0 < m.pad
structure PInv (m : PSt) : Prop where
  g : PG m
  blk : m.block.length < 512

theorem padOf_range (n : Int) : 0 ≤ padOf n ∧ padOf n < 512 := by unfold padOf; omega
theorem skipM_g {m : PSt} (h : PC m) : PG (skipM m) := by
  unfold skipM; split
  · exact ⟨⟨h.ah, h.pd⟩, by simp, fun h => by simp at h, fun h => by simp at h, fun h => by simp at h⟩
  · rename_i hp
    exact ⟨⟨h.ah, h.pd⟩, by simp, fun h => by simp at h, fun h => by simp at h, fun _ => by have := h.pd.1; simp only; omega⟩
theorem sayM_c {m : PSt} {e : Ev} (h : PC m) : PC (sayM m e) := ⟨h.ah, h.pd⟩
theorem finishM_g {m : PSt} (h : PC m) : PG (finishM m) := skipM_g (sayM_c h)
theorem badM_g {m : PSt} {e : Nat} (h : PC m) : PG (badM m e) :=
  ⟨⟨h.ah, h.pd⟩, by simp [badM, sayM], fun h => by simp [badM, sayM] at h, fun h => by simp [badM, sayM] at h, fun h => by simp [badM, sayM] at h⟩
theorem paxOne_val {s : List UInt8} (h : (paxOne s).1 = 0) : (paxOne s).2.1.val.length ≤ 4096 := by
  unfold paxOne at *
  simp only at *
  split at h <;> rename_i h1
  · simp at h
  rw [if_neg h1]
  split at h <;> rename_i h2
  · split at h <;> rename_i h3
    · simp at h
    rw [if_neg h3]
    split at h <;> rename_i h4
    · simp at h
    rw [if_neg h4]
    split at h <;> rename_i h5
    · simp at h
    rw [if_neg h5]
    split at h <;> rename_i h6
    · exact absurd h h6
    rw [if_neg h6]
    simp only
    unfold checkRec at h6
    simp only at h6
    split at h6
    · simp at h6
    · split at h6
      · simp at h6
      · omega
  · simp at h
theorem paxRun_val : ∀ (k : Nat) (acc : List Rec) (s : List UInt8), (∀ r ∈ acc, r.val.length ≤ 4096) → ∀ r ∈ (paxRun k acc s).2, r.val.length ≤ 4096
  | 0, acc, s, h => by simp [paxRun]
  | k + 1, acc, s, h => by
    rw [paxRun]
    split
    · exact h
    · split
      · simp
      · split
        · simp
        · rename_i h3
          refine paxRun_val k _ _ ?_
          intro r hr
          rcases List.mem_append.1 hr with hr | hr
          · exact h r hr
          · simp at hr; subst hr; exact paxOne_val (by omega)
theorem toldM_g {m : PSt} (h : PC m) (ht : m.text.length ≤ 10000) : PG (toldM m) := by
  have htl := textOf_len m.text
  have hv := paxRun_val (m.text.length + 1) [] m.text (by simp)
  have hd : paxRun (m.text.length + 1) [] m.text = paxDecode m.text := rfl
  rw [hd] at hv
  unfold toldM
  split
  · exact skipM_g ⟨⟨h.ah.gl, h.ah.ll, h.ah.ok, by simp only; omega, h.ah.link⟩, h.pd⟩
  · split
    · exact skipM_g ⟨⟨h.ah.gl, h.ah.ll, h.ah.ok, h.ah.name, by simp only; omega⟩, h.pd⟩
    · split
      · exact badM_g h
      · split
        · split
          · exact badM_g h
          · refine skipM_g ⟨⟨by simp; omega, h.ah.ll, ⟨?_, h.ah.ok.2⟩, h.ah.name, h.ah.link⟩, h.pd⟩
            intro r hr
            rcases List.mem_append.1 hr with hr | hr
            · exact h.ah.ok.1 r hr
            · exact hv r hr
        · split
          · exact badM_g h
          · refine skipM_g ⟨⟨h.ah.gl, by simp; omega, ⟨h.ah.ok.1, ?_⟩, h.ah.name, h.ah.link⟩, h.pd⟩
            intro r hr
            rcases List.mem_append.1 hr with hr | hr
            · exact h.ah.ok.2 r hr
            · exact hv r hr
theorem thingM_g {m : PSt} {h : Hdr} (hc : PC m) (ho : in64 h.size) : PG (thingM m h) := by
  have hp := padOf_range (makeE h m.ahead).2.size
  have hs := makeE_size_le (a := m.ahead) ho
  have hnn := makeE_size (h := h) (a := m.ahead)
  have ha : AhOk ⟨m.ahead.glob, [], [], []⟩ := ⟨hc.ah.gl, by simp, ⟨hc.ah.ok.1, by simp⟩, by simp, by simp⟩
  unfold thingM
  simp only
  split
  · exact badM_g hc
  · rename_i h1
    have hnn := hnn (by omega)
    split
    · exact finishM_g ⟨ha, hp⟩
    · rename_i h2
      exact ⟨⟨ha, hp⟩, by simp, fun h => by simp at h, fun _ => ⟨by simp only; omega, hs.2⟩, fun h => by simp at h⟩
theorem headM_g {m : PSt} (h : PG m) (h0 : m.state = 0) : PG (headM m) := by
  unfold headM
  split
  · split
    · exact ⟨⟨h.c.ah, h.c.pd⟩, by simp [sayM], fun h => by simp [sayM] at h, fun h => by simp [sayM] at h, fun h => by simp [sayM] at h⟩
    · exact ⟨⟨h.c.ah, h.c.pd⟩, h.st, h.l1, h.l2, h.p3⟩
  · split
    · exact badM_g h.c
    · unfold headT
      split
      · exact badM_g h.c
      · have hgood := decodeH_good m.block
        have hp := padOf_range (decodeH m.block).2.size
        unfold headC
        split
        · exact badM_g ⟨h.c.ah, h.c.pd⟩
        · split
          · exact thingM_g ⟨h.c.ah, h.c.pd⟩ hgood.ok.size
          · split
            · exact badM_g ⟨h.c.ah, h.c.pd⟩
            · split
              · exact badM_g ⟨h.c.ah, h.c.pd⟩
              · split
                · exact toldM_g ⟨h.c.ah, hp⟩ (by simp)
                · exact ⟨⟨h.c.ah, hp⟩, by simp, fun _ => ⟨by simp only; omega, by simp only [List.length_nil]; omega⟩, fun h => by simp at h, fun h => by simp at h⟩

/-- How many events a call brings. -/
theorem skipM_out (m : PSt) : (skipM m).out = m.out := by unfold skipM; split <;> rfl
theorem finishM_out (m : PSt) : (finishM m).out.length = m.out.length + 1 := by simp [finishM, skipM_out, sayM]
theorem badM_out (m : PSt) (e : Nat) : (badM m e).out.length = m.out.length + 1 := by simp [badM, sayM]
theorem toldM_out (m : PSt) : (toldM m).out.length ≤ m.out.length + 1 := by
  unfold toldM
  repeat' split
  all_goals first | (rw [skipM_out]; simp only; omega) | (rw [badM_out]; exact Nat.le_refl _)
theorem thingM_out (m : PSt) (h : Hdr) : (thingM m h).out.length ≤ m.out.length + 2 := by
  unfold thingM
  simp only
  split
  · rw [badM_out]; omega
  · split
    · rw [finishM_out]; simp [sayM]
    · simp [sayM]
theorem headM_out (m : PSt) : (headM m).out.length ≤ m.out.length + 2 := by
  unfold headM headT headC
  split
  · split
    · simp [sayM]
    · simp
  · split
    · rw [badM_out]; omega
    · split
      · rw [badM_out]; omega
      · split
        · rw [badM_out]; simp only; omega
        · split
          · exact thingM_out _ _
          · split
            · rw [badM_out]; simp only; omega
            · split
              · rw [badM_out]; simp only; omega
              · split
                · have := toldM_out { m with cls := classOf (decodeH m.block).2.typ.toNat, state := 1, left := (decodeH m.block).2.size, pad := padOf (decodeH m.block).2.size, text := [] }
                  simp only at this ⊢; omega
                · simp

theorem stepN_pos {m : PSt} {k : Nat} (h : PInv m) (h4 : m.state ≠ 4) (hk : 0 < k) : 0 < stepN m k ∧ stepN m k ≤ k := by
  have hst := h.g.st
  have hb := h.blk
  have l1 := h.g.l1
  have l2 := h.g.l2
  have p3 := h.g.p3
  unfold stepN
  split
  · omega
  · split
    · rename_i h1
      rcases h1 with h1 | h1
      · have := l1 h1; omega
      · have := l2 h1; omega
    · have := p3 (by omega); omega
theorem stepM_inv {m : PSt} {b : List UInt8} (h : PInv m) (h4 : m.state ≠ 4) (hb : 0 < b.length) : PInv (stepM m b) ∧ (stepM m b).out.length ≤ m.out.length + 2 := by
  obtain ⟨hn1, hn2⟩ := stepN_pos h h4 hb
  have hst := h.g.st
  unfold stepM
  generalize hn : stepN m b.length = n at *
  have hlen : (b.take n).length = n := by simp; omega
  split
  · rename_i h0
    have hn' : n ≤ 512 - m.block.length := by rw [← hn, stepN, if_pos h0]; omega
    unfold stepH
    simp only
    split
    · rename_i h5
      have hg := headM_g (m := { m with block := m.block ++ b.take n, at_ := m.at_ + n, place := ((m.at_ + n : Nat) : Int) - 512 }) ⟨⟨h.g.c.ah, h.g.c.pd⟩, h.g.st, h.g.l1, h.g.l2, h.g.p3⟩ h0
      have ho := headM_out { m with block := m.block ++ b.take n, at_ := m.at_ + n, place := ((m.at_ + n : Nat) : Int) - 512 }
      exact ⟨⟨⟨⟨hg.c.ah, hg.c.pd⟩, hg.st, hg.l1, hg.l2, hg.p3⟩, by simp⟩, ho⟩
    · rename_i h5
      have := h.blk
      exact ⟨⟨⟨⟨h.g.c.ah, h.g.c.pd⟩, h.g.st, h.g.l1, h.g.l2, h.g.p3⟩, by simp only [List.length_append, hlen] at h5 ⊢; omega⟩, by simp⟩
  · rename_i h0
    split
    · rename_i h1
      have hn' : n ≤ m.left.toNat := by rw [← hn, stepN, if_neg h0, if_pos (.inl h1)]; omega
      have l1 := h.g.l1 h1
      unfold stepT
      simp only
      split
      · rename_i h5
        have hg := toldM_g (m := { m with text := m.text ++ b.take n, at_ := m.at_ + n, left := m.left - n }) ⟨h.g.c.ah, h.g.c.pd⟩ (by simp only [List.length_append, hlen]; omega)
        have ho := toldM_out { m with text := m.text ++ b.take n, at_ := m.at_ + n, left := m.left - n }
        have hbk : (toldM { m with text := m.text ++ b.take n, at_ := m.at_ + n, left := m.left - n }).block = m.block := by
          unfold toldM skipM badM sayM; repeat' split
          all_goals rfl
        exact ⟨⟨hg, by rw [hbk]; exact h.blk⟩, by simp only at ho ⊢; omega⟩
      · rename_i h5
        exact ⟨⟨⟨⟨h.g.c.ah, h.g.c.pd⟩, h.g.st, fun _ => by simp only [List.length_append, hlen]; omega, fun h2 => by simp only at h2; omega, fun h2 => by simp only at h2; omega⟩, h.blk⟩, by simp⟩
    · rename_i h1
      split
      · rename_i h2
        have hn' : n ≤ m.left.toNat := by rw [← hn, stepN, if_neg h0, if_pos (.inr h2)]; omega
        have l2 := h.g.l2 h2
        unfold stepD
        simp only
        split
        · rename_i h5
          have hg := finishM_g (m := { sayM { m with at_ := m.at_ + n } ⟨2, .zero, b.take n, none, 0⟩ with left := m.left - n }) ⟨h.g.c.ah, h.g.c.pd⟩
          refine ⟨⟨hg, ?_⟩, ?_⟩
          · have : (finishM { sayM { m with at_ := m.at_ + n } ⟨2, .zero, b.take n, none, 0⟩ with left := m.left - n }).block = m.block := by
              unfold finishM skipM sayM; split <;> rfl
            rw [this]; exact h.blk
          · rw [finishM_out]; simp [sayM]
        · rename_i h5
          exact ⟨⟨⟨⟨h.g.c.ah, h.g.c.pd⟩, h.g.st, fun h3 => by simp only [sayM] at h3; omega, fun _ => by simp only; omega, fun h3 => by simp only [sayM] at h3; omega⟩, h.blk⟩, by simp [sayM]⟩
      · rename_i h2
        have h3 : m.state = 3 := by omega
        have hn' : n ≤ m.pad.toNat := by rw [← hn, stepN, if_neg h0, if_neg (by omega)]; omega
        have p3 := h.g.p3 h3
        have pd := h.g.c.pd
        unfold stepP
        simp only
        split
        · exact ⟨⟨⟨⟨h.g.c.ah, by simp only; omega⟩, by simp, fun h => by simp at h, fun h => by simp at h, fun h => by simp at h⟩, h.blk⟩, by simp⟩
        · exact ⟨⟨⟨⟨h.g.c.ah, by simp only; omega⟩, h.g.st, fun h3 => by simp only at h3; omega, fun h3 => by simp only at h3; omega, fun _ => by simp only; omega⟩, h.blk⟩, by simp⟩
end Go.Proofs.YtnfiihdebonadaaGreatDoor.Abs
namespace Go.Proofs.YtnfiihdebonadaaGreatDoor.Abs

theorem skipM_at (m : PSt) : (skipM m).at_ = m.at_ := by unfold skipM; split <;> rfl
theorem finishM_at (m : PSt) : (finishM m).at_ = m.at_ := by rw [finishM, skipM_at]; rfl
theorem badM_at (m : PSt) (e : Nat) : (badM m e).at_ = m.at_ := rfl
theorem toldM_at (m : PSt) : (toldM m).at_ = m.at_ := by
  unfold toldM
  repeat' split
  all_goals first | rw [skipM_at] | rw [badM_at]
theorem thingM_at (m : PSt) (h : Hdr) : (thingM m h).at_ = m.at_ := by
  unfold thingM
  simp only
  split
  · rfl
  · split
    · rw [finishM_at]; rfl
    · rfl
theorem headM_at (m : PSt) : (headM m).at_ = m.at_ := by
  unfold headM headT headC
  repeat' split
  all_goals first | rfl | (rw [thingM_at]) | (rw [toldM_at])
theorem stepM_at (m : PSt) (b : List UInt8) : (stepM m b).at_ = m.at_ + stepN m b.length := by
  unfold stepM
  split
  · unfold stepH; simp only; split
    · simp only [headM_at]
    · rfl
  · split
    · unfold stepT; simp only; split
      · rw [toldM_at]
      · rfl
    · split
      · unfold stepD; simp only; split
        · rw [finishM_at]; rfl
        · rfl
      · unfold stepP; simp only; split <;> rfl

theorem feedRun_stop {k : Nat} {m : PSt} {b : List UInt8} (h : b = [] ∨ m.state = 4) : feedRun k m b = m := by
  cases k with
  | zero => rfl
  | succ k => rw [feedRun, if_pos h]

set_option maxHeartbeats 1000000 in
theorem push_Feed {W0 : World} (G : Glob W0) {S : St} {p : Nat} {m : PSt} (hm : PMem S p m) (hI : PInv m) {x : AV} {b : List UInt8} (hx : Bytes S x b) (hu : x.under S.len = true) (hn : ∀ i, x.names i → ¬ POwn S p i) (hat : m.at_ + b.length ≤ 4611686018427387904) (hbl : b.length ≤ 400000) {Q : AV → St → Prop}
    (hQ : ∀ r S' oc, PMem S' p { feedM m b with out := [] } → PFr S S' p → Sl S' 14 r (feedM m b).out.length oc → Evs S' (fun i => POwn S' p i) (feedM m b).out oc → (∀ i, r.names i → ¬ POwn S' p i) → Q r S') : CallsA Pr W0 Fn.push_Parser_Feed [.ptr p 0 0, x] S Q := by
  refine in_push_Parser_Feed (by simp) ?_
  obtain ⟨xb, xt, xo, g, l, hg, hs⟩ := hm
  have hpp := hs.hp
  (repeat' (first | (with_reducible refine @Br_pos _ _ _ _ _ _ (by first | assumption | omega) ?_) | (with_reducible refine @Br_neg _ _ _ _ _ _ (by first | assumption | omega) ?_) | (with_reducible refine @Br_dec _ _ _ _ _ _ (fun _ => ?_) (fun _ => ?_)) | (with_reducible refine Br_bt (by assumption) ?_) | (with_reducible refine Br_bf (by assumption) ?_) | (with_reducible refine Br_b (fun _ => ?_) (fun _ => ?_)) | (with_reducible refine IfK_pos (by first | assumption | omega) ?_) | (with_reducible refine IfK_neg (by first | assumption | omega) ?_) | (with_reducible refine IfK_bf (by assumption) ?_) | (with_reducible refine IfK_dec (fun _ => ?_) (fun _ => ?_)) | (with_reducible refine And.intro ?_ ?_) | simp (maxSteps := 10000000) (disch := ((try simp only [len_pushv, len_put, len_putB, List.length_take, List.length_drop, List.length_append, List.length_map, List.length_replicate, List.length_set, List.length_cons, List.length_nil, true_and, and_true]); first | done | omega | (repeat' (first | exact St.le.refl _ | assumption | refine le_pushv ?_ | refine le_put ?_ (by first | omega | (simp only [len_pushv, len_put]; omega)))))) only [W, Gives, pinsAfter, ↓reduceIte, Nat.reduceEqDiff, Nat.reduceAdd, Nat.reduceMul, Nat.reduceSub, ne_eq, Int.reduceEq, Int.reduceNeg, Int.reduceToNat, Int.reduceAdd, Int.reduceSub, Int.reduceMul, Int.reduceDiv, Int.reduceMod, Int.reduceLT, Int.reduceLE, Nat.reduceLeDiff, Nat.reduceBEq, Nat.reduceLT, code_push_Parser_Feed, code_push_Parser_Feed_t0, code_push_Parser_Feed_t1, code_push_Parser_Feed_t2, code_push_Parser_Feed_t3, code_push_Parser_Feed_t4, code_push_Parser_Feed_t5, code_push_Parser_Feed_t6, code_push_Parser_Feed_t7, code_push_Parser_Feed_k0, code_push_Parser_Feed_k1, code_push_Parser_Feed_k2, hg, prow]))
  have hs0 : PS S p { m with out := [] } xb xt (.list true 0 []) g l := by
    obtain ⟨oc, h1, h2⟩ := hs.so
    exact ⟨hs.hp, hs.sb, hs.st, hs.sg, hs.sl, ⟨[], Sl.nil _ _, .nil⟩, hs.bt, fun i _ h => h, hs.bg, hs.bl, fun i _ h => h, hs.tg, hs.tl, fun i h => h.elim, fun i h => h.elim, hs.gl, hs.pb, hs.pt, fun h => h, hs.pg, hs.pl⟩
  have hg0 : (S.put p (0, .row (prow { m with out := [] } xb xt (.list true 0 []) g l))).get p = (0, .row (prow { m with out := [] } xb xt (.list true 0 []) g l)) := get_put_at hpp
  have hm0 : PMem (S.put p (0, .row (prow { m with out := [] } xb xt (.list true 0 []) g l))) p { m with out := [] } := ⟨_, _, _, _, _, hg0, hs0.keep (by rw [len_put]; omega) (fun i hi hne => get_put_no hne) rfl rfl rfl rfl rfl⟩
  have f0 : PFr S (S.put p (0, .row (prow { m with out := [] } xb xt (.list true 0 []) g l))) p := PFr.of hg hg0 (by rw [len_put]; omega) (fun i hi hn => get_put_no fun e => hn (.inl e)) (by
    rintro i (h | h | h | h | h)
    · exact .inl (.inl h)
    · exact .inl (.inr (.inl h))
    · exact .inl (.inr (.inr (.inl h)))
    · exact h.elim
    · exact .inl (.inr (.inr (.inr (.inr h)))))
  have hI0 : PInv { m with out := [] } := ⟨⟨⟨hI.g.c.ah, hI.g.c.pd⟩, hI.g.st, hI.g.l1, hI.g.l2, hI.g.p3⟩, hI.blk⟩
  refine awp_loop (α := PSt × List UInt8) (fun y e S' => PMem S' p y.1 ∧ PFr S S' p ∧ PInv y.1 ∧ e 0 = .ptr p 0 0 ∧ Bytes S' (e 1) y.2 ∧ (e 1).under S'.len = true ∧ (∀ i, (e 1).names i → ¬ POwn S' p i) ∧ y.1.at_ + y.2.length ≤ 4611686018427387904 ∧ y.1.out.length + 2 * y.2.length ≤ 2 * b.length ∧ y.2.length ≤ b.length ∧ ∃ k, y.2.length < k ∧ feedRun k y.1 y.2 = feedM m b) (fun y => y.2.length) ({ m with out := [] }, b) ?_ ?_
  · obtain ⟨h1, h2, h3⟩ := f0.bytes hx hu hn
    refine ⟨hm0, f0, hI0, by simp (maxSteps := 10000000) (disch := ((try simp only [len_pushv, len_put, len_putB, List.length_take, List.length_drop, List.length_append, List.length_map, List.length_replicate, List.length_set, List.length_cons, List.length_nil, true_and, and_true]); first | done | omega | (repeat' (first | exact St.le.refl _ | assumption | refine le_pushv ?_ | refine le_put ?_ (by first | omega | (simp only [len_pushv, len_put]; omega)))))) only [W, Gives, pinsAfter, ↓reduceIte, Nat.reduceEqDiff, Nat.reduceAdd, Nat.reduceMul, Nat.reduceSub, ne_eq, Int.reduceEq, Int.reduceNeg, Int.reduceToNat, Int.reduceAdd, Int.reduceSub, Int.reduceMul, Int.reduceDiv, Int.reduceMod, Int.reduceLT, Int.reduceLE, Nat.reduceLeDiff, Nat.reduceBEq, Nat.reduceLT], ?_, ?_, ?_, hat, by simp, Nat.le_refl _, b.length + 1, by simp, rfl⟩
    · simp (maxSteps := 10000000) (disch := ((try simp only [len_pushv, len_put, len_putB, List.length_take, List.length_drop, List.length_append, List.length_map, List.length_replicate, List.length_set, List.length_cons, List.length_nil, true_and, and_true]); first | done | omega | (repeat' (first | exact St.le.refl _ | assumption | refine le_pushv ?_ | refine le_put ?_ (by first | omega | (simp only [len_pushv, len_put]; omega)))))) only [W, Gives, pinsAfter, ↓reduceIte, Nat.reduceEqDiff, Nat.reduceAdd, Nat.reduceMul, Nat.reduceSub, ne_eq, Int.reduceEq, Int.reduceNeg, Int.reduceToNat, Int.reduceAdd, Int.reduceSub, Int.reduceMul, Int.reduceDiv, Int.reduceMod, Int.reduceLT, Int.reduceLE, Nat.reduceLeDiff, Nat.reduceBEq, Nat.reduceLT]; exact h1
    · simp (maxSteps := 10000000) (disch := ((try simp only [len_pushv, len_put, len_putB, List.length_take, List.length_drop, List.length_append, List.length_map, List.length_replicate, List.length_set, List.length_cons, List.length_nil, true_and, and_true]); first | done | omega | (repeat' (first | exact St.le.refl _ | assumption | refine le_pushv ?_ | refine le_put ?_ (by first | omega | (simp only [len_pushv, len_put]; omega)))))) only [W, Gives, pinsAfter, ↓reduceIte, Nat.reduceEqDiff, Nat.reduceAdd, Nat.reduceMul, Nat.reduceSub, ne_eq, Int.reduceEq, Int.reduceNeg, Int.reduceToNat, Int.reduceAdd, Int.reduceSub, Int.reduceMul, Int.reduceDiv, Int.reduceMod, Int.reduceLT, Int.reduceLE, Nat.reduceLeDiff, Nat.reduceBEq, Nat.reduceLT]; exact hu
    · simp (maxSteps := 10000000) (disch := ((try simp only [len_pushv, len_put, len_putB, List.length_take, List.length_drop, List.length_append, List.length_map, List.length_replicate, List.length_set, List.length_cons, List.length_nil, true_and, and_true]); first | done | omega | (repeat' (first | exact St.le.refl _ | assumption | refine le_pushv ?_ | refine le_put ?_ (by first | omega | (simp only [len_pushv, len_put]; omega)))))) only [W, Gives, pinsAfter, ↓reduceIte, Nat.reduceEqDiff, Nat.reduceAdd, Nat.reduceMul, Nat.reduceSub, ne_eq, Int.reduceEq, Int.reduceNeg, Int.reduceToNat, Int.reduceAdd, Int.reduceSub, Int.reduceMul, Int.reduceDiv, Int.reduceMod, Int.reduceLT, Int.reduceLE, Nat.reduceLeDiff, Nat.reduceBEq, Nat.reduceLT]; exact h3
  rintro ⟨m1, b1⟩ e S1 ⟨hm1, f1, hI1, he0, hx1, hu1, hn1, hat1, hout1, hbl1, k, hk, hrun⟩
  simp only at hm1 f1 hI1 hx1 hat1 hout1 hbl1 hk hrun
  generalize hex : e 1 = x1 at *
  obtain ⟨k, rfl⟩ : ∃ j, k = j + 1 := ⟨k - 1, by omega⟩
  have xl1 := hx1.len
  obtain ⟨xb1, xt1, xo1, g1, l1, hg1, hs1⟩ := id hm1
  have hst := hI1.g.st
  have fin : feedM m b = m1 → retV xo1 S Q (S1.put p (0, .row (prow { m1 with out := [] } xb1 xt1 (.list true 0 []) g1 l1))) := by
    intro hf
    have hs2 : PS S1 p { m1 with out := [] } xb1 xt1 (.list true 0 []) g1 l1 := by
      exact ⟨hs1.hp, hs1.sb, hs1.st, hs1.sg, hs1.sl, ⟨[], Sl.nil _ _, .nil⟩, hs1.bt, fun i _ h => h, hs1.bg, hs1.bl, fun i _ h => h, hs1.tg, hs1.tl, fun i h => h.elim, fun i h => h.elim, hs1.gl, hs1.pb, hs1.pt, fun h => h, hs1.pg, hs1.pl⟩
    have hg2 : (S1.put p (0, .row (prow { m1 with out := [] } xb1 xt1 (.list true 0 []) g1 l1))).get p = (0, .row (prow { m1 with out := [] } xb1 xt1 (.list true 0 []) g1 l1)) := get_put_at hs1.hp
    obtain ⟨oc, ho1, ho2⟩ := hs1.so
    have own : ∀ i, owns p xb1 xt1 (.list true 0 []) g1 l1 i → owns p xb1 xt1 xo1 g1 l1 i := by
      rintro i (h | h | h | h | h)
      · exact .inl h
      · exact .inr (.inl h)
      · exact .inr (.inr (.inl h))
      · exact h.elim
      · exact .inr (.inr (.inr (.inr h)))
    refine ret_stay fun _ _ => hQ _ _ oc ?_ ?_ ?_ ?_ ?_
    · rw [hf]; exact ⟨_, _, _, _, _, hg2, hs2.keep (by rw [len_put]; omega) (fun i hi hne => get_put_no hne) rfl rfl rfl rfl rfl⟩
    · exact f1.trans (PFr.of hg1 hg2 (by rw [len_put]; omega) (fun i hi hn => get_put_no fun e => hn (.inl e)) fun i h => .inl (own i h))
    · rw [hf]; exact ho1.frame (by rw [len_put]; omega) fun i hi => get_put_no fun e => hs1.po (by rw [e] at hi; exact hi)
    · rw [hf]; exact ho2.frame (by rw [len_put]; omega) (fun i hi hn => get_put_no fun e => hn (.inl e)) fun i h => .inl (own i ((POwn_iff hg2).1 h))
    · intro i hi ho
      rcases (POwn_iff hg2).1 ho with h | h | h | h | h | h
      · exact hs1.po (by rw [h] at hi; exact hi)
      · exact hs1.bo i h hi
      · exact hs1.t_o i h hi
      · exact h
      · exact hs1.og i hi h
      · exact hs1.ol i hi h
  have c1 := holds_cells hs1.so.choose_spec.1.holds
  by_cases hb0 : b1 = []
  · have hf : feedM m b = m1 := by rw [← hrun, feedRun_stop (.inl hb0)]
    have hb0' : b1.length = 0 := by rw [hb0]; rfl
    (repeat' (first | (with_reducible refine @Br_pos _ _ _ _ _ _ (by first | assumption | omega) ?_) | (with_reducible refine @Br_neg _ _ _ _ _ _ (by first | assumption | omega) ?_) | (with_reducible refine @Br_dec _ _ _ _ _ _ (fun _ => ?_) (fun _ => ?_)) | (with_reducible refine Br_bt (by assumption) ?_) | (with_reducible refine Br_bf (by assumption) ?_) | (with_reducible refine Br_b (fun _ => ?_) (fun _ => ?_)) | (with_reducible refine IfK_pos (by first | assumption | omega) ?_) | (with_reducible refine IfK_neg (by first | assumption | omega) ?_) | (with_reducible refine IfK_bf (by assumption) ?_) | (with_reducible refine IfK_dec (fun _ => ?_) (fun _ => ?_)) | (with_reducible refine And.intro ?_ ?_) | simp (maxSteps := 10000000) (disch := ((try simp only [len_pushv, len_put, len_putB, List.length_take, List.length_drop, List.length_append, List.length_map, List.length_replicate, List.length_set, List.length_cons, List.length_nil, true_and, and_true]); first | done | omega | (repeat' (first | exact St.le.refl _ | assumption | refine le_pushv ?_ | refine le_put ?_ (by first | omega | (simp only [len_pushv, len_put]; omega)))))) only [W, Gives, pinsAfter, ↓reduceIte, Nat.reduceEqDiff, Nat.reduceAdd, Nat.reduceMul, Nat.reduceSub, ne_eq, Int.reduceEq, Int.reduceNeg, Int.reduceToNat, Int.reduceAdd, Int.reduceSub, Int.reduceMul, Int.reduceDiv, Int.reduceMod, Int.reduceLT, Int.reduceLE, Nat.reduceLeDiff, Nat.reduceBEq, Nat.reduceLT, code_push_Parser_Feed, code_push_Parser_Feed_t0, code_push_Parser_Feed_t1, code_push_Parser_Feed_t2, code_push_Parser_Feed_t3, code_push_Parser_Feed_t4, code_push_Parser_Feed_t5, code_push_Parser_Feed_t6, code_push_Parser_Feed_t7, code_push_Parser_Feed_k0, code_push_Parser_Feed_l0, code_push_Parser_Feed_k2, he0, hex, hg1, prow, xl1]))
    exact fin hf
  have hb1 : 0 < b1.length := List.length_pos_iff.2 hb0
  by_cases h4 : m1.state = 4
  · have hf : feedM m b = m1 := by rw [← hrun, feedRun_stop (.inr h4)]
    (repeat' (first | (with_reducible refine @Br_pos _ _ _ _ _ _ (by first | assumption | omega) ?_) | (with_reducible refine @Br_neg _ _ _ _ _ _ (by first | assumption | omega) ?_) | (with_reducible refine @Br_dec _ _ _ _ _ _ (fun _ => ?_) (fun _ => ?_)) | (with_reducible refine Br_bt (by assumption) ?_) | (with_reducible refine Br_bf (by assumption) ?_) | (with_reducible refine Br_b (fun _ => ?_) (fun _ => ?_)) | (with_reducible refine IfK_pos (by first | assumption | omega) ?_) | (with_reducible refine IfK_neg (by first | assumption | omega) ?_) | (with_reducible refine IfK_bf (by assumption) ?_) | (with_reducible refine IfK_dec (fun _ => ?_) (fun _ => ?_)) | (with_reducible refine And.intro ?_ ?_) | simp (maxSteps := 10000000) (disch := ((try simp only [len_pushv, len_put, len_putB, List.length_take, List.length_drop, List.length_append, List.length_map, List.length_replicate, List.length_set, List.length_cons, List.length_nil, true_and, and_true]); first | done | omega | (repeat' (first | exact St.le.refl _ | assumption | refine le_pushv ?_ | refine le_put ?_ (by first | omega | (simp only [len_pushv, len_put]; omega)))))) only [W, Gives, pinsAfter, ↓reduceIte, Nat.reduceEqDiff, Nat.reduceAdd, Nat.reduceMul, Nat.reduceSub, ne_eq, Int.reduceEq, Int.reduceNeg, Int.reduceToNat, Int.reduceAdd, Int.reduceSub, Int.reduceMul, Int.reduceDiv, Int.reduceMod, Int.reduceLT, Int.reduceLE, Nat.reduceLeDiff, Nat.reduceBEq, Nat.reduceLT, code_push_Parser_Feed, code_push_Parser_Feed_t0, code_push_Parser_Feed_t1, code_push_Parser_Feed_t2, code_push_Parser_Feed_t3, code_push_Parser_Feed_t4, code_push_Parser_Feed_t5, code_push_Parser_Feed_t6, code_push_Parser_Feed_t7, code_push_Parser_Feed_k0, code_push_Parser_Feed_l0, code_push_Parser_Feed_k2, he0, hex, hg1, prow, xl1]))
    exact fin hf
  rw [feedRun, if_neg (by rintro (h | h); exact hb0 h; exact h4 h)] at hrun
  obtain ⟨hn1', hn2'⟩ := stepN_pos hI1 h4 hb1
  obtain ⟨hI2, hout2⟩ := stepM_inv hI1 h4 hb1
  have hat2 := stepM_at m1 b1
  have key : ∀ (e' : Env) (S' : St) (n : Nat), e' 0 = .ptr p 0 0 → e' 1 = x1 → e' 5 = .int .i64 n → n = stepN m1 b1.length → PMem S' p (stepM m1 b1) → PFr S1 S' p →
      awp Pr W0 S code_push_Parser_Feed_k0 (inBlockA 1 (thenA (fun e' S' => ∃ x', (fun (y : PSt × List UInt8) (e : Env) (S' : St) => PMem S' p y.1 ∧ PFr S S' p ∧ PInv y.1 ∧ e 0 = .ptr p 0 0 ∧ Bytes S' (e 1) y.2 ∧ (e 1).under S'.len = true ∧ (∀ i, (e 1).names i → ¬ POwn S' p i) ∧ y.1.at_ + y.2.length ≤ 4611686018427387904 ∧ y.1.out.length + 2 * y.2.length ≤ 2 * b.length ∧ y.2.length ≤ b.length ∧ ∃ k, y.2.length < k ∧ feedRun k y.1 y.2 = feedM m b) x' e' S' ∧ x'.2.length < b1.length) (inBlockA 0 (thenA (awp Pr W0 S code_push_Parser_Feed_k2 (bodyQ [.tmp 4] S Q)) (bodyQ [.tmp 4] S Q))))) e' S' := by
    intro e' S' n h0 h1 h5 hn hm2 hf2
    obtain ⟨hx2, hu2, hn2⟩ := hf2.bytes hx1 hu1 hn1
    have xs := Holds.sub hx2 (a := some (.int .i64 n)) (b := none) (lo := n) (hi := b1.length) rfl (bnd_ok (by omega))
    (repeat' (first | (with_reducible refine @Br_pos _ _ _ _ _ _ (by first | assumption | omega) ?_) | (with_reducible refine @Br_neg _ _ _ _ _ _ (by first | assumption | omega) ?_) | (with_reducible refine @Br_dec _ _ _ _ _ _ (fun _ => ?_) (fun _ => ?_)) | (with_reducible refine Br_bt (by assumption) ?_) | (with_reducible refine Br_bf (by assumption) ?_) | (with_reducible refine Br_b (fun _ => ?_) (fun _ => ?_)) | (with_reducible refine IfK_pos (by first | assumption | omega) ?_) | (with_reducible refine IfK_neg (by first | assumption | omega) ?_) | (with_reducible refine IfK_bf (by assumption) ?_) | (with_reducible refine IfK_dec (fun _ => ?_) (fun _ => ?_)) | (with_reducible refine And.intro ?_ ?_) | simp (maxSteps := 10000000) (disch := ((try simp only [len_pushv, len_put, len_putB, List.length_take, List.length_drop, List.length_append, List.length_map, List.length_replicate, List.length_set, List.length_cons, List.length_nil, true_and, and_true]); first | done | omega | (repeat' (first | exact St.le.refl _ | assumption | refine le_pushv ?_ | refine le_put ?_ (by first | omega | (simp only [len_pushv, len_put]; omega)))))) only [W, Gives, pinsAfter, ↓reduceIte, Nat.reduceEqDiff, Nat.reduceAdd, Nat.reduceMul, Nat.reduceSub, ne_eq, Int.reduceEq, Int.reduceNeg, Int.reduceToNat, Int.reduceAdd, Int.reduceSub, Int.reduceMul, Int.reduceDiv, Int.reduceMod, Int.reduceLT, Int.reduceLE, Nat.reduceLeDiff, Nat.reduceBEq, Nat.reduceLT, code_push_Parser_Feed, code_push_Parser_Feed_t0, code_push_Parser_Feed_t1, code_push_Parser_Feed_t2, code_push_Parser_Feed_t3, code_push_Parser_Feed_t4, code_push_Parser_Feed_t5, code_push_Parser_Feed_t6, code_push_Parser_Feed_t7, code_push_Parser_Feed_k0, code_push_Parser_Feed_k1, code_push_Parser_Feed_l0, h0, h1, h5, xs]))
    have hb2 := hx2.subB (lo := n) (hi := b1.length) (by omega) (Nat.le_refl _)
    have e3 : (b1.drop n).take (b1.length - n) = b1.drop n := List.take_of_length_le (by simp)
    rw [e3] at hb2
    have hdl : (b1.drop n).length = b1.length - n := by simp
    refine ⟨(stepM m1 b1, b1.drop n), ⟨hm2, f1.trans hf2, hI2, trivial, hb2, subA_under hu2, fun i hi => hn2 i (subA_names hi), ?_, ?_, ?_, k, ?_, ?_⟩, ?_⟩
    · simp only [hat2, hdl]; omega
    · simp only [hdl]; omega
    · simp only [hdl]; omega
    · simp only [hdl]; omega
    · rw [← hrun, hn]
    · simp only [hdl]; omega
  by_cases s0 : m1.state = 0
  · (repeat' (first | (with_reducible refine @Br_pos _ _ _ _ _ _ (by first | assumption | omega) ?_) | (with_reducible refine @Br_neg _ _ _ _ _ _ (by first | assumption | omega) ?_) | (with_reducible refine @Br_dec _ _ _ _ _ _ (fun _ => ?_) (fun _ => ?_)) | (with_reducible refine Br_bt (by assumption) ?_) | (with_reducible refine Br_bf (by assumption) ?_) | (with_reducible refine Br_b (fun _ => ?_) (fun _ => ?_)) | (with_reducible refine IfK_pos (by first | assumption | omega) ?_) | (with_reducible refine IfK_neg (by first | assumption | omega) ?_) | (with_reducible refine IfK_bf (by assumption) ?_) | (with_reducible refine IfK_dec (fun _ => ?_) (fun _ => ?_)) | (with_reducible refine And.intro ?_ ?_) | simp (maxSteps := 10000000) (disch := ((try simp only [len_pushv, len_put, len_putB, List.length_take, List.length_drop, List.length_append, List.length_map, List.length_replicate, List.length_set, List.length_cons, List.length_nil, true_and, and_true]); first | done | omega | (repeat' (first | exact St.le.refl _ | assumption | refine le_pushv ?_ | refine le_put ?_ (by first | omega | (simp only [len_pushv, len_put]; omega)))))) only [W, Gives, pinsAfter, ↓reduceIte, Nat.reduceEqDiff, Nat.reduceAdd, Nat.reduceMul, Nat.reduceSub, ne_eq, Int.reduceEq, Int.reduceNeg, Int.reduceToNat, Int.reduceAdd, Int.reduceSub, Int.reduceMul, Int.reduceDiv, Int.reduceMod, Int.reduceLT, Int.reduceLE, Nat.reduceLeDiff, Nat.reduceBEq, Nat.reduceLT, code_push_Parser_Feed, code_push_Parser_Feed_t0, code_push_Parser_Feed_t3, code_push_Parser_Feed_t5, code_push_Parser_Feed_t7, code_push_Parser_Feed_k1, code_push_Parser_Feed_l0, he0, hex, hg1, prow, xl1]))
    refine feed_H G hm1 (by omega) hI1.g.c.ah hx1 hu1 hn1 hat1 (by omega) (by simp (maxSteps := 10000000) (disch := ((try simp only [len_pushv, len_put, len_putB, List.length_take, List.length_drop, List.length_append, List.length_map, List.length_replicate, List.length_set, List.length_cons, List.length_nil, true_and, and_true]); first | done | omega | (repeat' (first | exact St.le.refl _ | assumption | refine le_pushv ?_ | refine le_put ?_ (by first | omega | (simp only [len_pushv, len_put]; omega)))))) only [W, Gives, pinsAfter, ↓reduceIte, Nat.reduceEqDiff, Nat.reduceAdd, Nat.reduceMul, Nat.reduceSub, ne_eq, Int.reduceEq, Int.reduceNeg, Int.reduceToNat, Int.reduceAdd, Int.reduceSub, Int.reduceMul, Int.reduceDiv, Int.reduceMod, Int.reduceLT, Int.reduceLE, Nat.reduceLeDiff, Nat.reduceBEq, Nat.reduceLT, he0]) (by simp (maxSteps := 10000000) (disch := ((try simp only [len_pushv, len_put, len_putB, List.length_take, List.length_drop, List.length_append, List.length_map, List.length_replicate, List.length_set, List.length_cons, List.length_nil, true_and, and_true]); first | done | omega | (repeat' (first | exact St.le.refl _ | assumption | refine le_pushv ?_ | refine le_put ?_ (by first | omega | (simp only [len_pushv, len_put]; omega)))))) only [W, Gives, pinsAfter, ↓reduceIte, Nat.reduceEqDiff, Nat.reduceAdd, Nat.reduceMul, Nat.reduceSub, ne_eq, Int.reduceEq, Int.reduceNeg, Int.reduceToNat, Int.reduceAdd, Int.reduceSub, Int.reduceMul, Int.reduceDiv, Int.reduceMod, Int.reduceLT, Int.reduceLE, Nat.reduceLeDiff, Nat.reduceBEq, Nat.reduceLT, hex]) hI1.blk hb1 fun e' S' n h0 h1 h5 hnn hmem hfr => ?_
    (repeat' (first | (with_reducible refine @Br_pos _ _ _ _ _ _ (by first | assumption | omega) ?_) | (with_reducible refine @Br_neg _ _ _ _ _ _ (by first | assumption | omega) ?_) | (with_reducible refine @Br_dec _ _ _ _ _ _ (fun _ => ?_) (fun _ => ?_)) | (with_reducible refine Br_bt (by assumption) ?_) | (with_reducible refine Br_bf (by assumption) ?_) | (with_reducible refine Br_b (fun _ => ?_) (fun _ => ?_)) | (with_reducible refine IfK_pos (by first | assumption | omega) ?_) | (with_reducible refine IfK_neg (by first | assumption | omega) ?_) | (with_reducible refine IfK_bf (by assumption) ?_) | (with_reducible refine IfK_dec (fun _ => ?_) (fun _ => ?_)) | (with_reducible refine And.intro ?_ ?_) | simp (maxSteps := 10000000) (disch := ((try simp only [len_pushv, len_put, len_putB, List.length_take, List.length_drop, List.length_append, List.length_map, List.length_replicate, List.length_set, List.length_cons, List.length_nil, true_and, and_true]); first | done | omega | (repeat' (first | exact St.le.refl _ | assumption | refine le_pushv ?_ | refine le_put ?_ (by first | omega | (simp only [len_pushv, len_put]; omega)))))) only [W, Gives, pinsAfter, ↓reduceIte, Nat.reduceEqDiff, Nat.reduceAdd, Nat.reduceMul, Nat.reduceSub, ne_eq, Int.reduceEq, Int.reduceNeg, Int.reduceToNat, Int.reduceAdd, Int.reduceSub, Int.reduceMul, Int.reduceDiv, Int.reduceMod, Int.reduceLT, Int.reduceLE, Nat.reduceLeDiff, Nat.reduceBEq, Nat.reduceLT, code_push_Parser_Feed, code_push_Parser_Feed_t0, code_push_Parser_Feed_t3, code_push_Parser_Feed_t5, code_push_Parser_Feed_t7, code_push_Parser_Feed_k1, code_push_Parser_Feed_l0]))
    have hne : n = stepN m1 b1.length := by rw [stepN, if_pos s0]; have := hI1.blk; split at hnn <;> omega
    refine key e' S' n h0 h1 h5 hne ?_ hfr
    rw [stepM, if_pos s0, ← hne]; exact hmem
  by_cases s1 : m1.state = 1
  · have l1 := hI1.g.l1 s1
    (repeat' (first | (with_reducible refine @Br_pos _ _ _ _ _ _ (by first | assumption | omega) ?_) | (with_reducible refine @Br_neg _ _ _ _ _ _ (by first | assumption | omega) ?_) | (with_reducible refine @Br_dec _ _ _ _ _ _ (fun _ => ?_) (fun _ => ?_)) | (with_reducible refine Br_bt (by assumption) ?_) | (with_reducible refine Br_bf (by assumption) ?_) | (with_reducible refine Br_b (fun _ => ?_) (fun _ => ?_)) | (with_reducible refine IfK_pos (by first | assumption | omega) ?_) | (with_reducible refine IfK_neg (by first | assumption | omega) ?_) | (with_reducible refine IfK_bf (by assumption) ?_) | (with_reducible refine IfK_dec (fun _ => ?_) (fun _ => ?_)) | (with_reducible refine And.intro ?_ ?_) | simp (maxSteps := 10000000) (disch := ((try simp only [len_pushv, len_put, len_putB, List.length_take, List.length_drop, List.length_append, List.length_map, List.length_replicate, List.length_set, List.length_cons, List.length_nil, true_and, and_true]); first | done | omega | (repeat' (first | exact St.le.refl _ | assumption | refine le_pushv ?_ | refine le_put ?_ (by first | omega | (simp only [len_pushv, len_put]; omega)))))) only [W, Gives, pinsAfter, ↓reduceIte, Nat.reduceEqDiff, Nat.reduceAdd, Nat.reduceMul, Nat.reduceSub, ne_eq, Int.reduceEq, Int.reduceNeg, Int.reduceToNat, Int.reduceAdd, Int.reduceSub, Int.reduceMul, Int.reduceDiv, Int.reduceMod, Int.reduceLT, Int.reduceLE, Nat.reduceLeDiff, Nat.reduceBEq, Nat.reduceLT, code_push_Parser_Feed, code_push_Parser_Feed_t0, code_push_Parser_Feed_t3, code_push_Parser_Feed_t5, code_push_Parser_Feed_t7, code_push_Parser_Feed_k1, code_push_Parser_Feed_l0, he0, hex, hg1, prow, xl1]))
    refine feed_T G hm1 (by omega) hI1.g.c.ah hx1 hu1 hn1 hat1 (by omega) (by simp (maxSteps := 10000000) (disch := ((try simp only [len_pushv, len_put, len_putB, List.length_take, List.length_drop, List.length_append, List.length_map, List.length_replicate, List.length_set, List.length_cons, List.length_nil, true_and, and_true]); first | done | omega | (repeat' (first | exact St.le.refl _ | assumption | refine le_pushv ?_ | refine le_put ?_ (by first | omega | (simp only [len_pushv, len_put]; omega)))))) only [W, Gives, pinsAfter, ↓reduceIte, Nat.reduceEqDiff, Nat.reduceAdd, Nat.reduceMul, Nat.reduceSub, ne_eq, Int.reduceEq, Int.reduceNeg, Int.reduceToNat, Int.reduceAdd, Int.reduceSub, Int.reduceMul, Int.reduceDiv, Int.reduceMod, Int.reduceLT, Int.reduceLE, Nat.reduceLeDiff, Nat.reduceBEq, Nat.reduceLT, he0]) (by simp (maxSteps := 10000000) (disch := ((try simp only [len_pushv, len_put, len_putB, List.length_take, List.length_drop, List.length_append, List.length_map, List.length_replicate, List.length_set, List.length_cons, List.length_nil, true_and, and_true]); first | done | omega | (repeat' (first | exact St.le.refl _ | assumption | refine le_pushv ?_ | refine le_put ?_ (by first | omega | (simp only [len_pushv, len_put]; omega)))))) only [W, Gives, pinsAfter, ↓reduceIte, Nat.reduceEqDiff, Nat.reduceAdd, Nat.reduceMul, Nat.reduceSub, ne_eq, Int.reduceEq, Int.reduceNeg, Int.reduceToNat, Int.reduceAdd, Int.reduceSub, Int.reduceMul, Int.reduceDiv, Int.reduceMod, Int.reduceLT, Int.reduceLE, Nat.reduceLeDiff, Nat.reduceBEq, Nat.reduceLT, hex]) (by omega) hb1 fun e' S' n h0 h1 h5 hnn hmem hfr => ?_
    (repeat' (first | (with_reducible refine @Br_pos _ _ _ _ _ _ (by first | assumption | omega) ?_) | (with_reducible refine @Br_neg _ _ _ _ _ _ (by first | assumption | omega) ?_) | (with_reducible refine @Br_dec _ _ _ _ _ _ (fun _ => ?_) (fun _ => ?_)) | (with_reducible refine Br_bt (by assumption) ?_) | (with_reducible refine Br_bf (by assumption) ?_) | (with_reducible refine Br_b (fun _ => ?_) (fun _ => ?_)) | (with_reducible refine IfK_pos (by first | assumption | omega) ?_) | (with_reducible refine IfK_neg (by first | assumption | omega) ?_) | (with_reducible refine IfK_bf (by assumption) ?_) | (with_reducible refine IfK_dec (fun _ => ?_) (fun _ => ?_)) | (with_reducible refine And.intro ?_ ?_) | simp (maxSteps := 10000000) (disch := ((try simp only [len_pushv, len_put, len_putB, List.length_take, List.length_drop, List.length_append, List.length_map, List.length_replicate, List.length_set, List.length_cons, List.length_nil, true_and, and_true]); first | done | omega | (repeat' (first | exact St.le.refl _ | assumption | refine le_pushv ?_ | refine le_put ?_ (by first | omega | (simp only [len_pushv, len_put]; omega)))))) only [W, Gives, pinsAfter, ↓reduceIte, Nat.reduceEqDiff, Nat.reduceAdd, Nat.reduceMul, Nat.reduceSub, ne_eq, Int.reduceEq, Int.reduceNeg, Int.reduceToNat, Int.reduceAdd, Int.reduceSub, Int.reduceMul, Int.reduceDiv, Int.reduceMod, Int.reduceLT, Int.reduceLE, Nat.reduceLeDiff, Nat.reduceBEq, Nat.reduceLT, code_push_Parser_Feed, code_push_Parser_Feed_t0, code_push_Parser_Feed_t3, code_push_Parser_Feed_t5, code_push_Parser_Feed_t7, code_push_Parser_Feed_k1, code_push_Parser_Feed_l0]))
    have hne : n = stepN m1 b1.length := by rw [stepN, if_neg s0, if_pos (.inl s1)]; split at hnn <;> omega
    refine key e' S' n h0 h1 h5 hne ?_ hfr
    rw [stepM, if_neg s0, if_pos s1, ← hne]; exact hmem
  by_cases s2 : m1.state = 2
  · have l2 := hI1.g.l2 s2
    (repeat' (first | (with_reducible refine @Br_pos _ _ _ _ _ _ (by first | assumption | omega) ?_) | (with_reducible refine @Br_neg _ _ _ _ _ _ (by first | assumption | omega) ?_) | (with_reducible refine @Br_dec _ _ _ _ _ _ (fun _ => ?_) (fun _ => ?_)) | (with_reducible refine Br_bt (by assumption) ?_) | (with_reducible refine Br_bf (by assumption) ?_) | (with_reducible refine Br_b (fun _ => ?_) (fun _ => ?_)) | (with_reducible refine IfK_pos (by first | assumption | omega) ?_) | (with_reducible refine IfK_neg (by first | assumption | omega) ?_) | (with_reducible refine IfK_bf (by assumption) ?_) | (with_reducible refine IfK_dec (fun _ => ?_) (fun _ => ?_)) | (with_reducible refine And.intro ?_ ?_) | simp (maxSteps := 10000000) (disch := ((try simp only [len_pushv, len_put, len_putB, List.length_take, List.length_drop, List.length_append, List.length_map, List.length_replicate, List.length_set, List.length_cons, List.length_nil, true_and, and_true]); first | done | omega | (repeat' (first | exact St.le.refl _ | assumption | refine le_pushv ?_ | refine le_put ?_ (by first | omega | (simp only [len_pushv, len_put]; omega)))))) only [W, Gives, pinsAfter, ↓reduceIte, Nat.reduceEqDiff, Nat.reduceAdd, Nat.reduceMul, Nat.reduceSub, ne_eq, Int.reduceEq, Int.reduceNeg, Int.reduceToNat, Int.reduceAdd, Int.reduceSub, Int.reduceMul, Int.reduceDiv, Int.reduceMod, Int.reduceLT, Int.reduceLE, Nat.reduceLeDiff, Nat.reduceBEq, Nat.reduceLT, code_push_Parser_Feed, code_push_Parser_Feed_t0, code_push_Parser_Feed_t3, code_push_Parser_Feed_t5, code_push_Parser_Feed_t7, code_push_Parser_Feed_k1, code_push_Parser_Feed_l0, he0, hex, hg1, prow, xl1]))
    refine feed_D G hm1 (by omega) hI1.g.c.ah hx1 hu1 hn1 hat1 (by omega) (by simp (maxSteps := 10000000) (disch := ((try simp only [len_pushv, len_put, len_putB, List.length_take, List.length_drop, List.length_append, List.length_map, List.length_replicate, List.length_set, List.length_cons, List.length_nil, true_and, and_true]); first | done | omega | (repeat' (first | exact St.le.refl _ | assumption | refine le_pushv ?_ | refine le_put ?_ (by first | omega | (simp only [len_pushv, len_put]; omega)))))) only [W, Gives, pinsAfter, ↓reduceIte, Nat.reduceEqDiff, Nat.reduceAdd, Nat.reduceMul, Nat.reduceSub, ne_eq, Int.reduceEq, Int.reduceNeg, Int.reduceToNat, Int.reduceAdd, Int.reduceSub, Int.reduceMul, Int.reduceDiv, Int.reduceMod, Int.reduceLT, Int.reduceLE, Nat.reduceLeDiff, Nat.reduceBEq, Nat.reduceLT, he0]) (by simp (maxSteps := 10000000) (disch := ((try simp only [len_pushv, len_put, len_putB, List.length_take, List.length_drop, List.length_append, List.length_map, List.length_replicate, List.length_set, List.length_cons, List.length_nil, true_and, and_true]); first | done | omega | (repeat' (first | exact St.le.refl _ | assumption | refine le_pushv ?_ | refine le_put ?_ (by first | omega | (simp only [len_pushv, len_put]; omega)))))) only [W, Gives, pinsAfter, ↓reduceIte, Nat.reduceEqDiff, Nat.reduceAdd, Nat.reduceMul, Nat.reduceSub, ne_eq, Int.reduceEq, Int.reduceNeg, Int.reduceToNat, Int.reduceAdd, Int.reduceSub, Int.reduceMul, Int.reduceDiv, Int.reduceMod, Int.reduceLT, Int.reduceLE, Nat.reduceLeDiff, Nat.reduceBEq, Nat.reduceLT, hex]) (by omega) hb1 fun e' S' n h0 h1 h5 hnn hmem hfr => ?_
    (repeat' (first | (with_reducible refine @Br_pos _ _ _ _ _ _ (by first | assumption | omega) ?_) | (with_reducible refine @Br_neg _ _ _ _ _ _ (by first | assumption | omega) ?_) | (with_reducible refine @Br_dec _ _ _ _ _ _ (fun _ => ?_) (fun _ => ?_)) | (with_reducible refine Br_bt (by assumption) ?_) | (with_reducible refine Br_bf (by assumption) ?_) | (with_reducible refine Br_b (fun _ => ?_) (fun _ => ?_)) | (with_reducible refine IfK_pos (by first | assumption | omega) ?_) | (with_reducible refine IfK_neg (by first | assumption | omega) ?_) | (with_reducible refine IfK_bf (by assumption) ?_) | (with_reducible refine IfK_dec (fun _ => ?_) (fun _ => ?_)) | (with_reducible refine And.intro ?_ ?_) | simp (maxSteps := 10000000) (disch := ((try simp only [len_pushv, len_put, len_putB, List.length_take, List.length_drop, List.length_append, List.length_map, List.length_replicate, List.length_set, List.length_cons, List.length_nil, true_and, and_true]); first | done | omega | (repeat' (first | exact St.le.refl _ | assumption | refine le_pushv ?_ | refine le_put ?_ (by first | omega | (simp only [len_pushv, len_put]; omega)))))) only [W, Gives, pinsAfter, ↓reduceIte, Nat.reduceEqDiff, Nat.reduceAdd, Nat.reduceMul, Nat.reduceSub, ne_eq, Int.reduceEq, Int.reduceNeg, Int.reduceToNat, Int.reduceAdd, Int.reduceSub, Int.reduceMul, Int.reduceDiv, Int.reduceMod, Int.reduceLT, Int.reduceLE, Nat.reduceLeDiff, Nat.reduceBEq, Nat.reduceLT, code_push_Parser_Feed, code_push_Parser_Feed_t0, code_push_Parser_Feed_t3, code_push_Parser_Feed_t5, code_push_Parser_Feed_t7, code_push_Parser_Feed_k1, code_push_Parser_Feed_l0]))
    have hne : n = stepN m1 b1.length := by rw [stepN, if_neg s0, if_pos (.inr s2)]; split at hnn <;> omega
    refine key e' S' n h0 h1 h5 hne ?_ hfr
    rw [stepM, if_neg s0, if_neg s1, if_pos s2, ← hne]; exact hmem
  · have s3 : m1.state = 3 := by omega
    have p3 := hI1.g.p3 s3
    have pd := hI1.g.c.pd
    (repeat' (first | (with_reducible refine @Br_pos _ _ _ _ _ _ (by first | assumption | omega) ?_) | (with_reducible refine @Br_neg _ _ _ _ _ _ (by first | assumption | omega) ?_) | (with_reducible refine @Br_dec _ _ _ _ _ _ (fun _ => ?_) (fun _ => ?_)) | (with_reducible refine Br_bt (by assumption) ?_) | (with_reducible refine Br_bf (by assumption) ?_) | (with_reducible refine Br_b (fun _ => ?_) (fun _ => ?_)) | (with_reducible refine IfK_pos (by first | assumption | omega) ?_) | (with_reducible refine IfK_neg (by first | assumption | omega) ?_) | (with_reducible refine IfK_bf (by assumption) ?_) | (with_reducible refine IfK_dec (fun _ => ?_) (fun _ => ?_)) | (with_reducible refine And.intro ?_ ?_) | simp (maxSteps := 10000000) (disch := ((try simp only [len_pushv, len_put, len_putB, List.length_take, List.length_drop, List.length_append, List.length_map, List.length_replicate, List.length_set, List.length_cons, List.length_nil, true_and, and_true]); first | done | omega | (repeat' (first | exact St.le.refl _ | assumption | refine le_pushv ?_ | refine le_put ?_ (by first | omega | (simp only [len_pushv, len_put]; omega)))))) only [W, Gives, pinsAfter, ↓reduceIte, Nat.reduceEqDiff, Nat.reduceAdd, Nat.reduceMul, Nat.reduceSub, ne_eq, Int.reduceEq, Int.reduceNeg, Int.reduceToNat, Int.reduceAdd, Int.reduceSub, Int.reduceMul, Int.reduceDiv, Int.reduceMod, Int.reduceLT, Int.reduceLE, Nat.reduceLeDiff, Nat.reduceBEq, Nat.reduceLT, code_push_Parser_Feed, code_push_Parser_Feed_t0, code_push_Parser_Feed_t3, code_push_Parser_Feed_t5, code_push_Parser_Feed_t7, code_push_Parser_Feed_k1, code_push_Parser_Feed_l0, he0, hex, hg1, prow, xl1]))
    refine feed_P G hm1 (by omega) hI1.g.c.ah hx1 hu1 hn1 hat1 (by omega) (by simp (maxSteps := 10000000) (disch := ((try simp only [len_pushv, len_put, len_putB, List.length_take, List.length_drop, List.length_append, List.length_map, List.length_replicate, List.length_set, List.length_cons, List.length_nil, true_and, and_true]); first | done | omega | (repeat' (first | exact St.le.refl _ | assumption | refine le_pushv ?_ | refine le_put ?_ (by first | omega | (simp only [len_pushv, len_put]; omega)))))) only [W, Gives, pinsAfter, ↓reduceIte, Nat.reduceEqDiff, Nat.reduceAdd, Nat.reduceMul, Nat.reduceSub, ne_eq, Int.reduceEq, Int.reduceNeg, Int.reduceToNat, Int.reduceAdd, Int.reduceSub, Int.reduceMul, Int.reduceDiv, Int.reduceMod, Int.reduceLT, Int.reduceLE, Nat.reduceLeDiff, Nat.reduceBEq, Nat.reduceLT, he0]) (by simp (maxSteps := 10000000) (disch := ((try simp only [len_pushv, len_put, len_putB, List.length_take, List.length_drop, List.length_append, List.length_map, List.length_replicate, List.length_set, List.length_cons, List.length_nil, true_and, and_true]); first | done | omega | (repeat' (first | exact St.le.refl _ | assumption | refine le_pushv ?_ | refine le_put ?_ (by first | omega | (simp only [len_pushv, len_put]; omega)))))) only [W, Gives, pinsAfter, ↓reduceIte, Nat.reduceEqDiff, Nat.reduceAdd, Nat.reduceMul, Nat.reduceSub, ne_eq, Int.reduceEq, Int.reduceNeg, Int.reduceToNat, Int.reduceAdd, Int.reduceSub, Int.reduceMul, Int.reduceDiv, Int.reduceMod, Int.reduceLT, Int.reduceLE, Nat.reduceLeDiff, Nat.reduceBEq, Nat.reduceLT, hex]) (by omega) fun e' S' n h0 h1 h5 hnn hmem hfr => ?_
    (repeat' (first | (with_reducible refine @Br_pos _ _ _ _ _ _ (by first | assumption | omega) ?_) | (with_reducible refine @Br_neg _ _ _ _ _ _ (by first | assumption | omega) ?_) | (with_reducible refine @Br_dec _ _ _ _ _ _ (fun _ => ?_) (fun _ => ?_)) | (with_reducible refine Br_bt (by assumption) ?_) | (with_reducible refine Br_bf (by assumption) ?_) | (with_reducible refine Br_b (fun _ => ?_) (fun _ => ?_)) | (with_reducible refine IfK_pos (by first | assumption | omega) ?_) | (with_reducible refine IfK_neg (by first | assumption | omega) ?_) | (with_reducible refine IfK_bf (by assumption) ?_) | (with_reducible refine IfK_dec (fun _ => ?_) (fun _ => ?_)) | (with_reducible refine And.intro ?_ ?_) | simp (maxSteps := 10000000) (disch := ((try simp only [len_pushv, len_put, len_putB, List.length_take, List.length_drop, List.length_append, List.length_map, List.length_replicate, List.length_set, List.length_cons, List.length_nil, true_and, and_true]); first | done | omega | (repeat' (first | exact St.le.refl _ | assumption | refine le_pushv ?_ | refine le_put ?_ (by first | omega | (simp only [len_pushv, len_put]; omega)))))) only [W, Gives, pinsAfter, ↓reduceIte, Nat.reduceEqDiff, Nat.reduceAdd, Nat.reduceMul, Nat.reduceSub, ne_eq, Int.reduceEq, Int.reduceNeg, Int.reduceToNat, Int.reduceAdd, Int.reduceSub, Int.reduceMul, Int.reduceDiv, Int.reduceMod, Int.reduceLT, Int.reduceLE, Nat.reduceLeDiff, Nat.reduceBEq, Nat.reduceLT, code_push_Parser_Feed, code_push_Parser_Feed_t0, code_push_Parser_Feed_t3, code_push_Parser_Feed_t5, code_push_Parser_Feed_t7, code_push_Parser_Feed_k1, code_push_Parser_Feed_l0]))
    have hne : n = stepN m1 b1.length := by rw [stepN, if_neg s0, if_neg (by omega)]; split at hnn <;> omega
    refine key e' S' n h0 h1 h5 hne ?_ hfr
    rw [stepM, if_neg s0, if_neg s1, if_neg s2, ← hne]; exact hmem
end Go.Proofs.YtnfiihdebonadaaGreatDoor.Abs
