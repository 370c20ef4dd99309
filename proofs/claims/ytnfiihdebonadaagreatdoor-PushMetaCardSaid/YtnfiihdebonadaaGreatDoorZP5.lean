import Derived.Test.YtnfiihdebonadaaGreatDoorZP3
set_option linter.unusedSimpArgs false
set_option linter.unusedVariables false
set_option linter.unusedSectionVars false
namespace Go.Proofs.YtnfiihdebonadaaGreatDoor.Abs

def padOf (n : Int) : Int := ((512 - n.toNat % 512) % 512 : Nat)
def thingM (m : PSt) (h : Hdr) : PSt :=
  let r := makeE h m.ahead
  if r.1 ≠ 0 then badM m r.1 else
  let m2 := sayM { m with ahead := ⟨m.ahead.glob, [], [], []⟩ } ⟨1, r.2, [], none, 0⟩
  let m3 := { m2 with state := 2, left := r.2.size, pad := padOf r.2.size }
  if r.2.size = 0 then finishM m3 else m3
structure AhOk (a : Ahead) : Prop where
  gl : a.glob.length ≤ 64
  ll : a.loc.length ≤ 64
  ok : aheadOk a
  name : a.name.length ≤ 10000
  link : a.link.length ≤ 10000
theorem finE_size {f k : Int} {e : Ent} (h : (finE f k e).1 = 0) : 0 ≤ (finE f k e).2.size := by
  unfold finE at *
  dsimp only at *
  generalize (if k = 1 ∧ f = 0 ∧ Lib.hasSuffix e.path [47] = true then (4 : Int) else k) = kd at *
  generalize (if kd ≠ 1 then (0 : Int) else e.size) = sz at *
  by_cases hc : sz < 0 ∨ e.uid < 0 ∨ e.gid < 0
  · rw [if_pos hc] at h; cases h
  · rw [if_neg hc]; simp only; omega
theorem makeE_size {h : Hdr} {a : Ahead} (he : (makeE h a).1 = 0) : 0 ≤ (makeE h a).2.size := by
  unfold makeE at *
  split at he
  · cases he
  · rename_i h1
    rw [if_neg h1]
    split at he
    · exact finE_size he
    · cases he

theorem paxNum_in64 {s : List UInt8} {n : Int} (h : paxNum s = some n) : in64 n := by
  unfold paxNum at h
  split at h
  · rename_i k hk
    split at h
    · injection h with h; subst h; exact parseInt_in64 hk
    · cases h
  · cases h
theorem numA_in64 {a : Ahead} {k : List UInt8} {s n : Int} (hs : in64 s) (h : numA a k s = some n) : in64 n := by
  unfold numA at h
  split at h
  · exact paxNum_in64 h
  · injection h with h; subst h; exact hs
theorem finE_size_le {f k : Int} {e : Ent} (h : in64 e.size) : in64 (finE f k e).2.size := by
  have z : in64 (0 : Int) := by constructor <;> omega
  unfold finE
  dsimp only
  generalize (if k = 1 ∧ f = 0 ∧ Lib.hasSuffix e.path [47] = true then (4 : Int) else k) = kd
  generalize hsz : (if kd ≠ 1 then (0 : Int) else e.size) = sz
  by_cases hc : sz < 0 ∨ e.uid < 0 ∨ e.gid < 0
  · rw [if_pos hc]; exact z
  · rw [if_neg hc]; simp only
    rw [← hsz]; split
    · exact z
    · exact h
theorem makeE_size_le {h : Hdr} {a : Ahead} (ho : in64 h.size) : in64 (makeE h a).2.size := by
  have z : in64 (0 : Int) := by constructor <;> omega
  unfold makeE
  split
  · exact z
  · split
    · rename_i s u g t h1 h2 h3 h4
      exact finE_size_le (numA_in64 ho h1)
    · exact z

theorem push_thing {W0 : World} (G : Glob W0) {S : St} {p : Nat} {m : PSt} (hm : PMem S p m) (hl : m.out.length ≤ 900000) (ha : AhOk m.ahead) {h : Hdr} (ho : h.ok) (hf : 0 ≤ h.form ∧ h.form ≤ 2) (hp' : h.pref.length + h.name.length ≤ 1000000) {Q : AV → St → Prop}
    (hQ : ∀ S', PMem S' p (thingM m h) → PFr S S' p → Q (.tup []) S') : CallsA Pr W0 Fn.push_Parser_thing [.ptr p 0 0, .agg h.cells] S Q := by
  obtain ⟨xb, xt, xo, g, l, hg, hs⟩ := hm
  have hp := hs.hp
  have cg := holds_cells hs.sg.holds
  have cl := holds_cells hs.sl.holds
  have hA : IsAhead S g l m.ahead := ⟨hs.sg.holds, hs.sl.holds, hs.sg.under, hs.sl.under, by have := ha.gl; omega, by have := ha.ll; omega⟩
  have hmk : ∀ {S'}, S.le S' → Gives Pr W0 Fn.entry_Make [.agg h.cells, .agg [g, l, .str m.ahead.name, .str m.ahead.link]] S' (.tup [.agg (makeE h m.ahead).2.cells, .int .i64 (makeE h m.ahead).1]) := fun hle => entry_Make G (hA.at hle) ha.ok ho hf (by have := ha.name; omega) hp'
  refine in_push_Parser_thing (by simp) ?_
  (repeat' (first | (with_reducible refine @Br_pos _ _ _ _ _ _ (by first | assumption | omega) ?_) | (with_reducible refine @Br_neg _ _ _ _ _ _ (by first | assumption | omega) ?_) | (with_reducible refine @Br_dec _ _ _ _ _ _ (fun _ => ?_) (fun _ => ?_)) | (with_reducible refine Br_bt (by assumption) ?_) | (with_reducible refine Br_bf (by assumption) ?_) | (with_reducible refine Br_b (fun _ => ?_) (fun _ => ?_)) | (with_reducible refine IfK_pos (by first | assumption | omega) ?_) | (with_reducible refine IfK_neg (by first | assumption | omega) ?_) | (with_reducible refine IfK_bf (by assumption) ?_) | (with_reducible refine IfK_dec (fun _ => ?_) (fun _ => ?_)) | (with_reducible refine And.intro ?_ ?_) | simp (maxSteps := 10000000) (disch := ((try simp only [len_pushv, len_put, len_putB, List.length_take, List.length_drop, List.length_append, List.length_map, List.length_replicate, List.length_set, List.length_cons, List.length_nil, true_and, and_true]); first | done | omega | (repeat' (first | exact St.le.refl _ | assumption | refine le_pushv ?_ | refine le_put ?_ (by first | omega | (simp only [len_pushv, len_put]; omega)))))) only [W, Gives, pinsAfter, ↓reduceIte, Nat.reduceEqDiff, Nat.reduceAdd, Nat.reduceMul, Nat.reduceSub, ne_eq, Int.reduceEq, Int.reduceNeg, Int.reduceToNat, Int.reduceAdd, Int.reduceSub, Int.reduceMul, Int.reduceDiv, Int.reduceMod, Int.reduceLT, Int.reduceLE, Nat.reduceLeDiff, Nat.reduceBEq, Nat.reduceLT, code_push_Parser_thing, code_push_Parser_thing_k0, hg, prow, Hdr.cells]))
  unfold code_push_Parser_thing_d0
  refine awp_cut (fun e S' => e 0 = .ptr p 0 0 ∧ e 4 = .ptr (S.len + 1) 0 0 ∧ e 5 = .int .i64 (makeE h m.ahead).1 ∧ S' = (S.pushv 0 (.row h.cells)).pushv 0 (.row (makeE h m.ahead).2.cells)) ?_ ?_
  · (repeat' (first | (with_reducible refine @Br_pos _ _ _ _ _ _ (by first | assumption | omega) ?_) | (with_reducible refine @Br_neg _ _ _ _ _ _ (by first | assumption | omega) ?_) | (with_reducible refine @Br_dec _ _ _ _ _ _ (fun _ => ?_) (fun _ => ?_)) | (with_reducible refine Br_bt (by assumption) ?_) | (with_reducible refine Br_bf (by assumption) ?_) | (with_reducible refine Br_b (fun _ => ?_) (fun _ => ?_)) | (with_reducible refine IfK_pos (by first | assumption | omega) ?_) | (with_reducible refine IfK_neg (by first | assumption | omega) ?_) | (with_reducible refine IfK_bf (by assumption) ?_) | (with_reducible refine IfK_dec (fun _ => ?_) (fun _ => ?_)) | (with_reducible refine And.intro ?_ ?_) | (refine (hmk (by repeat' (first | exact St.le.refl _ | assumption | refine le_pushv ?_ | refine le_put ?_ (by first | omega | (simp only [len_pushv, len_put]; omega)) | refine le_trunc ?_ (by first | omega | (simp only [len_pushv, len_put]; omega))))).go ?_) | simp (maxSteps := 10000000) (disch := ((try simp only [len_pushv, len_put, len_putB, List.length_take, List.length_drop, List.length_append, List.length_map, List.length_replicate, List.length_set, List.length_cons, List.length_nil, true_and, and_true]); first | done | omega | (repeat' (first | exact St.le.refl _ | assumption | refine le_pushv ?_ | refine le_put ?_ (by first | omega | (simp only [len_pushv, len_put]; omega)))))) only [W, Gives, pinsAfter, ↓reduceIte, Nat.reduceEqDiff, Nat.reduceAdd, Nat.reduceMul, Nat.reduceSub, ne_eq, Int.reduceEq, Int.reduceNeg, Int.reduceToNat, Int.reduceAdd, Int.reduceSub, Int.reduceMul, Int.reduceDiv, Int.reduceMod, Int.reduceLT, Int.reduceLE, Nat.reduceLeDiff, Nat.reduceBEq, Nat.reduceLT, code_push_Parser_thing, code_push_Parser_thing_k0, code_push_Parser_thing_d0, hg, prow, Hdr.cells, Ent.cells]))
    all_goals rfl
  rintro e S1 ⟨he0, he4, he5, hS1⟩
  have hp1 : p < S1.len := by rw [hS1]; simp only [len_pushv]; omega
  have hle : S.le S1 := by rw [hS1]; exact (by repeat' (first | exact St.le.refl _ | assumption | refine le_pushv ?_ | refine le_put ?_ (by first | omega | (simp only [len_pushv, len_put]; omega)) | refine le_trunc ?_ (by first | omega | (simp only [len_pushv, len_put]; omega))))
  have hg1 : S1.get p = (0, .row (prow m xb xt xo g l)) := by rw [hle.2 p hp, hg]
  have hE : S1.get (S.len + 1) = (0, .row (makeE h m.ahead).2.cells) := by rw [hS1]; exact get_pushv_at (by rw [len_pushv])
  have hs1 : PS S1 p m xb xt xo g l := hs.keep hle.1 (fun i hi _ => hle.2 i hi) rfl rfl rfl rfl rfl
  have f1 : PFr S S1 p := PFr.of hg hg1 hle.1 (fun i hi _ => hle.2 i hi) fun i h => .inl h
  have hlen1 : S1.len = S.len + 2 := by rw [hS1]; simp only [len_pushv]
  clear hS1
  generalize hr : makeE h m.ahead = r at *
  by_cases h1 : r.1 = 0
  rotate_left
  · (repeat' (first | (with_reducible refine @Br_pos _ _ _ _ _ _ (by first | assumption | omega) ?_) | (with_reducible refine @Br_neg _ _ _ _ _ _ (by first | assumption | omega) ?_) | (with_reducible refine @Br_dec _ _ _ _ _ _ (fun _ => ?_) (fun _ => ?_)) | (with_reducible refine Br_bt (by assumption) ?_) | (with_reducible refine Br_bf (by assumption) ?_) | (with_reducible refine Br_b (fun _ => ?_) (fun _ => ?_)) | (with_reducible refine IfK_pos (by first | assumption | omega) ?_) | (with_reducible refine IfK_neg (by first | assumption | omega) ?_) | (with_reducible refine IfK_bf (by assumption) ?_) | (with_reducible refine IfK_dec (fun _ => ?_) (fun _ => ?_)) | (with_reducible refine And.intro ?_ ?_) | simp (maxSteps := 10000000) (disch := ((try simp only [len_pushv, len_put, len_putB, List.length_take, List.length_drop, List.length_append, List.length_map, List.length_replicate, List.length_set, List.length_cons, List.length_nil, true_and, and_true]); first | done | omega | (repeat' (first | exact St.le.refl _ | assumption | refine le_pushv ?_ | refine le_put ?_ (by first | omega | (simp only [len_pushv, len_put]; omega)))))) only [W, Gives, pinsAfter, ↓reduceIte, Nat.reduceEqDiff, Nat.reduceAdd, Nat.reduceMul, Nat.reduceSub, ne_eq, Int.reduceEq, Int.reduceNeg, Int.reduceToNat, Int.reduceAdd, Int.reduceSub, Int.reduceMul, Int.reduceDiv, Int.reduceMod, Int.reduceLT, Int.reduceLE, Nat.reduceLeDiff, Nat.reduceBEq, Nat.reduceLT, code_push_Parser_thing, code_push_Parser_thing_d0, he0, he4, he5]))
    refine push_bad ⟨xb, xt, xo, g, l, hg1, hs1⟩ (by omega) fun S2 h2 h3 => ?_
    (repeat' (first | (with_reducible refine @Br_pos _ _ _ _ _ _ (by first | assumption | omega) ?_) | (with_reducible refine @Br_neg _ _ _ _ _ _ (by first | assumption | omega) ?_) | (with_reducible refine @Br_dec _ _ _ _ _ _ (fun _ => ?_) (fun _ => ?_)) | (with_reducible refine Br_bt (by assumption) ?_) | (with_reducible refine Br_bf (by assumption) ?_) | (with_reducible refine Br_b (fun _ => ?_) (fun _ => ?_)) | (with_reducible refine IfK_pos (by first | assumption | omega) ?_) | (with_reducible refine IfK_neg (by first | assumption | omega) ?_) | (with_reducible refine IfK_bf (by assumption) ?_) | (with_reducible refine IfK_dec (fun _ => ?_) (fun _ => ?_)) | (with_reducible refine And.intro ?_ ?_) | simp (maxSteps := 10000000) (disch := ((try simp only [len_pushv, len_put, len_putB, List.length_take, List.length_drop, List.length_append, List.length_map, List.length_replicate, List.length_set, List.length_cons, List.length_nil, true_and, and_true]); first | done | omega | (repeat' (first | exact St.le.refl _ | assumption | refine le_pushv ?_ | refine le_put ?_ (by first | omega | (simp only [len_pushv, len_put]; omega)))))) only [W, Gives, pinsAfter, ↓reduceIte, Nat.reduceEqDiff, Nat.reduceAdd, Nat.reduceMul, Nat.reduceSub, ne_eq, Int.reduceEq, Int.reduceNeg, Int.reduceToNat, Int.reduceAdd, Int.reduceSub, Int.reduceMul, Int.reduceDiv, Int.reduceMod, Int.reduceLT, Int.reduceLE, Nat.reduceLeDiff, Nat.reduceBEq, Nat.reduceLT, code_push_Parser_thing, code_push_Parser_thing_d0]))
    refine ret_stay fun _ _ => hQ _ ?_ (f1.trans h3)
    rw [thingM, hr]; simp only [if_pos h1]; exact h2
  have hlt : ∀ i, owns p xb xt xo g (.list true 0 []) i → i < S.len := by
    rintro i (h | h | h | h | h | h)
    · omega
    · exact names_lt hs.sb.under h
    · exact names_lt hs.st.under h
    · obtain ⟨oc, ho, _⟩ := hs.so
      exact names_lt ho.under h
    · exact names_lt hs.sg.under h
    · exact h.elim
  (repeat' (first | (with_reducible refine @Br_pos _ _ _ _ _ _ (by first | assumption | omega) ?_) | (with_reducible refine @Br_neg _ _ _ _ _ _ (by first | assumption | omega) ?_) | (with_reducible refine @Br_dec _ _ _ _ _ _ (fun _ => ?_) (fun _ => ?_)) | (with_reducible refine Br_bt (by assumption) ?_) | (with_reducible refine Br_bf (by assumption) ?_) | (with_reducible refine Br_b (fun _ => ?_) (fun _ => ?_)) | (with_reducible refine IfK_pos (by first | assumption | omega) ?_) | (with_reducible refine IfK_neg (by first | assumption | omega) ?_) | (with_reducible refine IfK_bf (by assumption) ?_) | (with_reducible refine IfK_dec (fun _ => ?_) (fun _ => ?_)) | (with_reducible refine And.intro ?_ ?_) | simp (maxSteps := 10000000) (disch := ((try simp only [len_pushv, len_put, len_putB, List.length_take, List.length_drop, List.length_append, List.length_map, List.length_replicate, List.length_set, List.length_cons, List.length_nil, true_and, and_true]); first | done | omega | (repeat' (first | exact St.le.refl _ | assumption | refine le_pushv ?_ | refine le_put ?_ (by first | omega | (simp only [len_pushv, len_put]; omega)))))) only [W, Gives, pinsAfter, ↓reduceIte, Nat.reduceEqDiff, Nat.reduceAdd, Nat.reduceMul, Nat.reduceSub, ne_eq, Int.reduceEq, Int.reduceNeg, Int.reduceToNat, Int.reduceAdd, Int.reduceSub, Int.reduceMul, Int.reduceDiv, Int.reduceMod, Int.reduceLT, Int.reduceLE, Nat.reduceLeDiff, Nat.reduceBEq, Nat.reduceLT, code_push_Parser_thing, code_push_Parser_thing_k0, code_push_Parser_thing_d0, he0, he4, he5, h1, hg1, prow, cg, hE, Ent.cells]))
  have hs2 : PS S1 p { m with ahead := ⟨m.ahead.glob, [], [], []⟩ } xb xt xo g (.list true 0 []) := hs1.setL (m' := { m with ahead := ⟨m.ahead.glob, [], [], []⟩ }) ⟨Nat.le_refl _, fun _ _ _ => rfl, fun i h => h.elim⟩ (Sl.nil _ _) rfl rfl rfl rfl
  have hg2 : (S1.put p (0, .row (prow { m with ahead := ⟨m.ahead.glob, [], [], []⟩ } xb xt xo g (.list true 0 [])))).get p = (0, .row (prow { m with ahead := ⟨m.ahead.glob, [], [], []⟩ } xb xt xo g (.list true 0 []))) := get_put_at hp1
  have f2 : PFr S1 (S1.put p (0, .row (prow { m with ahead := ⟨m.ahead.glob, [], [], []⟩ } xb xt xo g (.list true 0 [])))) p := PFr.of hg1 hg2 (by rw [len_put]; omega) (fun i hi hn => get_put_no fun e => hn (.inl e)) (by
    rintro i (h | h | h | h | h | h)
    · exact .inl (.inl h)
    · exact .inl (.inr (.inl h))
    · exact .inl (.inr (.inr (.inl h)))
    · exact .inl (.inr (.inr (.inr (.inl h))))
    · exact .inl (.inr (.inr (.inr (.inr (.inl h)))))
    · exact h.elim)
  have hm2 : PMem (S1.put p (0, .row (prow { m with ahead := ⟨m.ahead.glob, [], [], []⟩ } xb xt xo g (.list true 0 [])))) p { m with ahead := ⟨m.ahead.glob, [], [], []⟩ } := ⟨_, _, _, _, _, hg2, hs2.keep (by rw [len_put]; omega) (fun i hi hne => get_put_no hne) rfl rfl rfl rfl rfl⟩
  refine push_say hm2 (e := ⟨1, r.2, [], none, 0⟩) (d := .list true 0 []) (bytes_nil _) rfl (fun i h => h.elim) (by show m.out.length ≤ 1000000; omega) fun S3 h3 h4 => ?_
  have hE3 : S3.get (S.len + 1) = (0, .row r.2.cells) := by
    rw [h4.old (S.len + 1) (by rw [len_put]; omega) fun ho => by have := hlt _ ((POwn_iff hg2).1 ho); omega, get_put_no (by omega), hE]
  obtain ⟨xb3, xt3, xo3, g3, l3, hg3, hs3⟩ := h3
  have hp3 := hs3.hp
  have hsz := makeE_size (h := h) (a := m.ahead) (by rw [hr]; exact h1)
  have hsz2 := makeE_size_le (a := m.ahead) ho.size
  rw [hr] at hsz hsz2
  have hpad : ∀ {S'}, Gives Pr W0 Fn.entry_Pad [.int .i64 r.2.size] S' (.int .i64 (padOf r.2.size)) := by
    intro S'
    have := entry_Pad (W0 := W0) (S := S') (n := r.2.size.toNat) (by have := hsz2.2; omega)
    rw [Int.toNat_of_nonneg hsz] at this
    exact this
  (repeat' (first | (with_reducible refine @Br_pos _ _ _ _ _ _ (by first | assumption | omega) ?_) | (with_reducible refine @Br_neg _ _ _ _ _ _ (by first | assumption | omega) ?_) | (with_reducible refine @Br_dec _ _ _ _ _ _ (fun _ => ?_) (fun _ => ?_)) | (with_reducible refine Br_bt (by assumption) ?_) | (with_reducible refine Br_bf (by assumption) ?_) | (with_reducible refine Br_b (fun _ => ?_) (fun _ => ?_)) | (with_reducible refine IfK_pos (by first | assumption | omega) ?_) | (with_reducible refine IfK_neg (by first | assumption | omega) ?_) | (with_reducible refine IfK_bf (by assumption) ?_) | (with_reducible refine IfK_dec (fun _ => ?_) (fun _ => ?_)) | (with_reducible refine And.intro ?_ ?_) | (refine hpad.go ?_) | simp (maxSteps := 10000000) (disch := ((try simp only [len_pushv, len_put, len_putB, List.length_take, List.length_drop, List.length_append, List.length_map, List.length_replicate, List.length_set, List.length_cons, List.length_nil, true_and, and_true]); first | done | omega | (repeat' (first | exact St.le.refl _ | assumption | refine le_pushv ?_ | refine le_put ?_ (by first | omega | (simp only [len_pushv, len_put]; omega)))))) only [W, Gives, pinsAfter, ↓reduceIte, Nat.reduceEqDiff, Nat.reduceAdd, Nat.reduceMul, Nat.reduceSub, ne_eq, Int.reduceEq, Int.reduceNeg, Int.reduceToNat, Int.reduceAdd, Int.reduceSub, Int.reduceMul, Int.reduceDiv, Int.reduceMod, Int.reduceLT, Int.reduceLE, Nat.reduceLeDiff, Nat.reduceBEq, Nat.reduceLT, code_push_Parser_thing, code_push_Parser_thing_k0, code_push_Parser_thing_d0, he0, he4, he5, h1, hg3, prow, hE3, Ent.cells]))
  all_goals
    rename_i h5
    obtain ⟨h6, h7⟩ := done_row (m' := { sayM { m with ahead := ⟨m.ahead.glob, [], [], []⟩ } ⟨1, r.2, [], none, 0⟩ with state := 2, left := r.2.size, pad := padOf r.2.size }) hg3 hs3 (S' := S3.put p (0, .row (prow { sayM { m with ahead := ⟨m.ahead.glob, [], [], []⟩ } ⟨1, r.2, [], none, 0⟩ with state := 2, left := r.2.size, pad := padOf r.2.size } xb3 xt3 xo3 g3 l3))) (get_put_at hp3) (by rw [len_put]; omega) (fun i _ h => get_put_no h) rfl rfl rfl rfl rfl
  · have e9 : thingM m h = finishM { sayM { m with ahead := ⟨m.ahead.glob, [], [], []⟩ } ⟨1, r.2, [], none, 0⟩ with state := 2, left := r.2.size, pad := padOf r.2.size } := by
      rw [thingM, hr]; simp only [h1, h5, ne_eq, not_true_eq_false, if_false, if_true]
    refine push_finish h6 (by simp [sayM]; omega) fun S4 h8 h9 => ?_
    rw [e9] at hQ
    exact ret_stay fun _ _ => hQ _ h8 (f1.trans (f2.trans (h4.trans (h7.trans h9))))
  · have e9 : thingM m h = { sayM { m with ahead := ⟨m.ahead.glob, [], [], []⟩ } ⟨1, r.2, [], none, 0⟩ with state := 2, left := r.2.size, pad := padOf r.2.size } := by
      rw [thingM, hr]; simp only [h1, h5, ne_eq, not_true_eq_false, if_false]
    rw [e9] at hQ
    exact ret_stay fun _ _ => hQ _ h6 (f1.trans (f2.trans (h4.trans h7)))
end Go.Proofs.YtnfiihdebonadaaGreatDoor.Abs
namespace Go.Proofs.YtnfiihdebonadaaGreatDoor.Abs

theorem recsAV_rd (S : St) (l : List Rec) : rd S 2 (recsAV l) = some (l.length, recsC l) := by
  have := recsC_length l
  unfold recsAV; split
  · rename_i h; subst h; simp [rd, recsC]
  · rw [rd_l (by omega)]
theorem recsAV_len (S : St) (l : List Rec) : lenLA S (recsAV l) = some (.int .i64 l.length) := by
  unfold recsAV; split
  · rename_i h; subst h; rfl
  · rfl
def toldM (m : PSt) : PSt :=
  if m.cls = 4 then skipM { m with ahead := { m.ahead with name := textOf m.text } }
  else if m.cls = 5 then skipM { m with ahead := { m.ahead with link := textOf m.text } }
  else if (paxDecode m.text).1 ≠ 0 then badM m (paxDecode m.text).1
  else if m.cls = 3 then
    if 64 < m.ahead.glob.length + (paxDecode m.text).2.length then badM m 2
    else skipM { m with ahead := { m.ahead with glob := m.ahead.glob ++ (paxDecode m.text).2 } }
  else
    if 64 < m.ahead.loc.length + (paxDecode m.text).2.length then badM m 2
    else skipM { m with ahead := { m.ahead with loc := m.ahead.loc ++ (paxDecode m.text).2 } }

theorem paxRun_len : ∀ (k : Nat) (acc : List Rec) (s : List UInt8), acc.length ≤ 64 → (paxRun k acc s).2.length ≤ 64
  | 0, acc, s, h => by simp [paxRun]
  | k + 1, acc, s, h => by
    rw [paxRun]
    split
    · exact h
    · split
      · simp
      · rename_i h2
        split
        · simp
        · exact paxRun_len k _ _ (by simp; omega)
theorem paxDecode_len (s : List UInt8) : (paxDecode s).2.length ≤ 64 := paxRun_len _ _ _ (by simp)

set_option maxHeartbeats 1000000 in
theorem push_told {W0 : World} (G : Glob W0) {S : St} {p : Nat} {m : PSt} (hm : PMem S p m) (hl : m.out.length ≤ 900000) (ha : AhOk m.ahead) (ht : m.text.length ≤ 1000000) {Q : AV → St → Prop}
    (hQ : ∀ S', PMem S' p (toldM m) → PFr S S' p → Q (.tup []) S') : CallsA Pr W0 Fn.push_Parser_told [.ptr p 0 0] S Q := by
  have hm0 := hm
  obtain ⟨xb, xt, xo, g, l, hg, hs⟩ := hm
  have hp := hs.hp
  have cg := holds_cells hs.sg.holds
  have cl := holds_cells hs.sl.holds
  have hbt : Bytes S xt m.text := hs.st.holds
  have hc := hbt.conv
  refine in_push_Parser_told (by simp) ?_
  (repeat' (first | (with_reducible refine @Br_pos _ _ _ _ _ _ (by first | assumption | omega) ?_) | (with_reducible refine @Br_neg _ _ _ _ _ _ (by first | assumption | omega) ?_) | (with_reducible refine @Br_dec _ _ _ _ _ _ (fun _ => ?_) (fun _ => ?_)) | (with_reducible refine Br_bt (by assumption) ?_) | (with_reducible refine Br_bf (by assumption) ?_) | (with_reducible refine Br_b (fun _ => ?_) (fun _ => ?_)) | (with_reducible refine IfK_pos (by first | assumption | omega) ?_) | (with_reducible refine IfK_neg (by first | assumption | omega) ?_) | (with_reducible refine IfK_bf (by assumption) ?_) | (with_reducible refine IfK_dec (fun _ => ?_) (fun _ => ?_)) | (with_reducible refine And.intro ?_ ?_) | simp (maxSteps := 10000000) (disch := ((try simp only [len_pushv, len_put, len_putB, List.length_take, List.length_drop, List.length_append, List.length_map, List.length_replicate, List.length_set, List.length_cons, List.length_nil, true_and, and_true]); first | done | omega | (repeat' (first | exact St.le.refl _ | assumption | refine le_pushv ?_ | refine le_put ?_ (by first | omega | (simp only [len_pushv, len_put]; omega)))))) only [W, Gives, pinsAfter, ↓reduceIte, Nat.reduceEqDiff, Nat.reduceAdd, Nat.reduceMul, Nat.reduceSub, ne_eq, Int.reduceEq, Int.reduceNeg, Int.reduceToNat, Int.reduceAdd, Int.reduceSub, Int.reduceMul, Int.reduceDiv, Int.reduceMod, Int.reduceLT, Int.reduceLE, Nat.reduceLeDiff, Nat.reduceBEq, Nat.reduceLT, code_push_Parser_told, code_push_Parser_told_k0, code_push_Parser_told_k1, code_push_Parser_told_k2, code_push_Parser_told_t0, code_push_Parser_told_t1, code_push_Parser_told_k3, hg, prow, hc]))
  refine (lib_Cut G (by omega)).go ?_
  have e0 : (Lib.cut m.text [0]).1 = textOf m.text := rfl
  by_cases c4 : m.cls = 4
  · (repeat' (first | (with_reducible refine @Br_pos _ _ _ _ _ _ (by first | assumption | omega) ?_) | (with_reducible refine @Br_neg _ _ _ _ _ _ (by first | assumption | omega) ?_) | (with_reducible refine @Br_dec _ _ _ _ _ _ (fun _ => ?_) (fun _ => ?_)) | (with_reducible refine Br_bt (by assumption) ?_) | (with_reducible refine Br_bf (by assumption) ?_) | (with_reducible refine Br_b (fun _ => ?_) (fun _ => ?_)) | (with_reducible refine IfK_pos (by first | assumption | omega) ?_) | (with_reducible refine IfK_neg (by first | assumption | omega) ?_) | (with_reducible refine IfK_bf (by assumption) ?_) | (with_reducible refine IfK_dec (fun _ => ?_) (fun _ => ?_)) | (with_reducible refine And.intro ?_ ?_) | simp (maxSteps := 10000000) (disch := ((try simp only [len_pushv, len_put, len_putB, List.length_take, List.length_drop, List.length_append, List.length_map, List.length_replicate, List.length_set, List.length_cons, List.length_nil, true_and, and_true]); first | done | omega | (repeat' (first | exact St.le.refl _ | assumption | refine le_pushv ?_ | refine le_put ?_ (by first | omega | (simp only [len_pushv, len_put]; omega)))))) only [W, Gives, pinsAfter, ↓reduceIte, Nat.reduceEqDiff, Nat.reduceAdd, Nat.reduceMul, Nat.reduceSub, ne_eq, Int.reduceEq, Int.reduceNeg, Int.reduceToNat, Int.reduceAdd, Int.reduceSub, Int.reduceMul, Int.reduceDiv, Int.reduceMod, Int.reduceLT, Int.reduceLE, Nat.reduceLeDiff, Nat.reduceBEq, Nat.reduceLT, code_push_Parser_told, code_push_Parser_told_k0, code_push_Parser_told_k1, code_push_Parser_told_k2, code_push_Parser_told_t0, code_push_Parser_told_t1, code_push_Parser_told_k3, hg, prow, hc, e0]))
    obtain ⟨h6, h7⟩ := done_row (m' := { m with ahead := { m.ahead with name := textOf m.text } }) hg hs (S' := S.put p (0, .row (prow { m with ahead := { m.ahead with name := textOf m.text } } xb xt xo g l))) (get_put_at hp) (by rw [len_put]; omega) (fun i _ h => get_put_no h) rfl rfl rfl rfl rfl
    simp only [prow] at h6 h7
    refine push_skip h6 fun S4 h8 h9 => ?_
    (repeat' (first | (with_reducible refine @Br_pos _ _ _ _ _ _ (by first | assumption | omega) ?_) | (with_reducible refine @Br_neg _ _ _ _ _ _ (by first | assumption | omega) ?_) | (with_reducible refine @Br_dec _ _ _ _ _ _ (fun _ => ?_) (fun _ => ?_)) | (with_reducible refine Br_bt (by assumption) ?_) | (with_reducible refine Br_bf (by assumption) ?_) | (with_reducible refine Br_b (fun _ => ?_) (fun _ => ?_)) | (with_reducible refine IfK_pos (by first | assumption | omega) ?_) | (with_reducible refine IfK_neg (by first | assumption | omega) ?_) | (with_reducible refine IfK_bf (by assumption) ?_) | (with_reducible refine IfK_dec (fun _ => ?_) (fun _ => ?_)) | (with_reducible refine And.intro ?_ ?_) | simp (maxSteps := 10000000) (disch := ((try simp only [len_pushv, len_put, len_putB, List.length_take, List.length_drop, List.length_append, List.length_map, List.length_replicate, List.length_set, List.length_cons, List.length_nil, true_and, and_true]); first | done | omega | (repeat' (first | exact St.le.refl _ | assumption | refine le_pushv ?_ | refine le_put ?_ (by first | omega | (simp only [len_pushv, len_put]; omega)))))) only [W, Gives, pinsAfter, ↓reduceIte, Nat.reduceEqDiff, Nat.reduceAdd, Nat.reduceMul, Nat.reduceSub, ne_eq, Int.reduceEq, Int.reduceNeg, Int.reduceToNat, Int.reduceAdd, Int.reduceSub, Int.reduceMul, Int.reduceDiv, Int.reduceMod, Int.reduceLT, Int.reduceLE, Nat.reduceLeDiff, Nat.reduceBEq, Nat.reduceLT, code_push_Parser_told, code_push_Parser_told_k0, code_push_Parser_told_k1, code_push_Parser_told_k2, code_push_Parser_told_t0, code_push_Parser_told_t1, code_push_Parser_told_k3]))
    have e9 : toldM m = skipM { m with ahead := { m.ahead with name := textOf m.text } } := by rw [toldM, if_pos c4]
    rw [e9] at hQ
    exact ret_stay fun _ _ => hQ _ h8 (h7.trans h9)
  by_cases c5 : m.cls = 5
  · (repeat' (first | (with_reducible refine @Br_pos _ _ _ _ _ _ (by first | assumption | omega) ?_) | (with_reducible refine @Br_neg _ _ _ _ _ _ (by first | assumption | omega) ?_) | (with_reducible refine @Br_dec _ _ _ _ _ _ (fun _ => ?_) (fun _ => ?_)) | (with_reducible refine Br_bt (by assumption) ?_) | (with_reducible refine Br_bf (by assumption) ?_) | (with_reducible refine Br_b (fun _ => ?_) (fun _ => ?_)) | (with_reducible refine IfK_pos (by first | assumption | omega) ?_) | (with_reducible refine IfK_neg (by first | assumption | omega) ?_) | (with_reducible refine IfK_bf (by assumption) ?_) | (with_reducible refine IfK_dec (fun _ => ?_) (fun _ => ?_)) | (with_reducible refine And.intro ?_ ?_) | simp (maxSteps := 10000000) (disch := ((try simp only [len_pushv, len_put, len_putB, List.length_take, List.length_drop, List.length_append, List.length_map, List.length_replicate, List.length_set, List.length_cons, List.length_nil, true_and, and_true]); first | done | omega | (repeat' (first | exact St.le.refl _ | assumption | refine le_pushv ?_ | refine le_put ?_ (by first | omega | (simp only [len_pushv, len_put]; omega)))))) only [W, Gives, pinsAfter, ↓reduceIte, Nat.reduceEqDiff, Nat.reduceAdd, Nat.reduceMul, Nat.reduceSub, ne_eq, Int.reduceEq, Int.reduceNeg, Int.reduceToNat, Int.reduceAdd, Int.reduceSub, Int.reduceMul, Int.reduceDiv, Int.reduceMod, Int.reduceLT, Int.reduceLE, Nat.reduceLeDiff, Nat.reduceBEq, Nat.reduceLT, code_push_Parser_told, code_push_Parser_told_k0, code_push_Parser_told_k1, code_push_Parser_told_k2, code_push_Parser_told_t0, code_push_Parser_told_t1, code_push_Parser_told_k3, hg, prow, hc, e0]))
    obtain ⟨h6, h7⟩ := done_row (m' := { m with ahead := { m.ahead with link := textOf m.text } }) hg hs (S' := S.put p (0, .row (prow { m with ahead := { m.ahead with link := textOf m.text } } xb xt xo g l))) (get_put_at hp) (by rw [len_put]; omega) (fun i _ h => get_put_no h) rfl rfl rfl rfl rfl
    simp only [prow] at h6 h7
    refine push_skip h6 fun S4 h8 h9 => ?_
    (repeat' (first | (with_reducible refine @Br_pos _ _ _ _ _ _ (by first | assumption | omega) ?_) | (with_reducible refine @Br_neg _ _ _ _ _ _ (by first | assumption | omega) ?_) | (with_reducible refine @Br_dec _ _ _ _ _ _ (fun _ => ?_) (fun _ => ?_)) | (with_reducible refine Br_bt (by assumption) ?_) | (with_reducible refine Br_bf (by assumption) ?_) | (with_reducible refine Br_b (fun _ => ?_) (fun _ => ?_)) | (with_reducible refine IfK_pos (by first | assumption | omega) ?_) | (with_reducible refine IfK_neg (by first | assumption | omega) ?_) | (with_reducible refine IfK_bf (by assumption) ?_) | (with_reducible refine IfK_dec (fun _ => ?_) (fun _ => ?_)) | (with_reducible refine And.intro ?_ ?_) | simp (maxSteps := 10000000) (disch := ((try simp only [len_pushv, len_put, len_putB, List.length_take, List.length_drop, List.length_append, List.length_map, List.length_replicate, List.length_set, List.length_cons, List.length_nil, true_and, and_true]); first | done | omega | (repeat' (first | exact St.le.refl _ | assumption | refine le_pushv ?_ | refine le_put ?_ (by first | omega | (simp only [len_pushv, len_put]; omega)))))) only [W, Gives, pinsAfter, ↓reduceIte, Nat.reduceEqDiff, Nat.reduceAdd, Nat.reduceMul, Nat.reduceSub, ne_eq, Int.reduceEq, Int.reduceNeg, Int.reduceToNat, Int.reduceAdd, Int.reduceSub, Int.reduceMul, Int.reduceDiv, Int.reduceMod, Int.reduceLT, Int.reduceLE, Nat.reduceLeDiff, Nat.reduceBEq, Nat.reduceLT, code_push_Parser_told, code_push_Parser_told_k0, code_push_Parser_told_k1, code_push_Parser_told_k2, code_push_Parser_told_t0, code_push_Parser_told_t1, code_push_Parser_told_k3]))
    have e9 : toldM m = skipM { m with ahead := { m.ahead with link := textOf m.text } } := by rw [toldM, if_neg c4, if_pos c5]
    rw [e9] at hQ
    exact ret_stay fun _ _ => hQ _ h8 (h7.trans h9)
  (repeat' (first | (with_reducible refine @Br_pos _ _ _ _ _ _ (by first | assumption | omega) ?_) | (with_reducible refine @Br_neg _ _ _ _ _ _ (by first | assumption | omega) ?_) | (with_reducible refine @Br_dec _ _ _ _ _ _ (fun _ => ?_) (fun _ => ?_)) | (with_reducible refine Br_bt (by assumption) ?_) | (with_reducible refine Br_bf (by assumption) ?_) | (with_reducible refine Br_b (fun _ => ?_) (fun _ => ?_)) | (with_reducible refine IfK_pos (by first | assumption | omega) ?_) | (with_reducible refine IfK_neg (by first | assumption | omega) ?_) | (with_reducible refine IfK_bf (by assumption) ?_) | (with_reducible refine IfK_dec (fun _ => ?_) (fun _ => ?_)) | (with_reducible refine And.intro ?_ ?_) | simp (maxSteps := 10000000) (disch := ((try simp only [len_pushv, len_put, len_putB, List.length_take, List.length_drop, List.length_append, List.length_map, List.length_replicate, List.length_set, List.length_cons, List.length_nil, true_and, and_true]); first | done | omega | (repeat' (first | exact St.le.refl _ | assumption | refine le_pushv ?_ | refine le_put ?_ (by first | omega | (simp only [len_pushv, len_put]; omega)))))) only [W, Gives, pinsAfter, ↓reduceIte, Nat.reduceEqDiff, Nat.reduceAdd, Nat.reduceMul, Nat.reduceSub, ne_eq, Int.reduceEq, Int.reduceNeg, Int.reduceToNat, Int.reduceAdd, Int.reduceSub, Int.reduceMul, Int.reduceDiv, Int.reduceMod, Int.reduceLT, Int.reduceLE, Nat.reduceLeDiff, Nat.reduceBEq, Nat.reduceLT, code_push_Parser_told, code_push_Parser_told_k0, code_push_Parser_told_k1, code_push_Parser_told_k2, code_push_Parser_told_t0, code_push_Parser_told_t1, code_push_Parser_told_k3, hg, prow, hc, e0]))
  refine (pax_Decode G hbt (by omega)).go ?_
  have hdl := paxDecode_len m.text
  have gl := ha.gl
  have ll := ha.ll
  generalize hr : paxDecode m.text = r at *
  by_cases r1 : r.1 = 0
  rotate_left
  · (repeat' (first | (with_reducible refine @Br_pos _ _ _ _ _ _ (by first | assumption | omega) ?_) | (with_reducible refine @Br_neg _ _ _ _ _ _ (by first | assumption | omega) ?_) | (with_reducible refine @Br_dec _ _ _ _ _ _ (fun _ => ?_) (fun _ => ?_)) | (with_reducible refine Br_bt (by assumption) ?_) | (with_reducible refine Br_bf (by assumption) ?_) | (with_reducible refine Br_b (fun _ => ?_) (fun _ => ?_)) | (with_reducible refine IfK_pos (by first | assumption | omega) ?_) | (with_reducible refine IfK_neg (by first | assumption | omega) ?_) | (with_reducible refine IfK_bf (by assumption) ?_) | (with_reducible refine IfK_dec (fun _ => ?_) (fun _ => ?_)) | (with_reducible refine And.intro ?_ ?_) | simp (maxSteps := 10000000) (disch := ((try simp only [len_pushv, len_put, len_putB, List.length_take, List.length_drop, List.length_append, List.length_map, List.length_replicate, List.length_set, List.length_cons, List.length_nil, true_and, and_true]); first | done | omega | (repeat' (first | exact St.le.refl _ | assumption | refine le_pushv ?_ | refine le_put ?_ (by first | omega | (simp only [len_pushv, len_put]; omega)))))) only [W, Gives, pinsAfter, ↓reduceIte, Nat.reduceEqDiff, Nat.reduceAdd, Nat.reduceMul, Nat.reduceSub, ne_eq, Int.reduceEq, Int.reduceNeg, Int.reduceToNat, Int.reduceAdd, Int.reduceSub, Int.reduceMul, Int.reduceDiv, Int.reduceMod, Int.reduceLT, Int.reduceLE, Nat.reduceLeDiff, Nat.reduceBEq, Nat.reduceLT, code_push_Parser_told, code_push_Parser_told_k0, code_push_Parser_told_k1, code_push_Parser_told_k2, code_push_Parser_told_t0, code_push_Parser_told_t1, code_push_Parser_told_k3, hg, prow]))
    refine push_bad hm0 (by omega) fun S2 h2 h3 => ?_
    (repeat' (first | (with_reducible refine @Br_pos _ _ _ _ _ _ (by first | assumption | omega) ?_) | (with_reducible refine @Br_neg _ _ _ _ _ _ (by first | assumption | omega) ?_) | (with_reducible refine @Br_dec _ _ _ _ _ _ (fun _ => ?_) (fun _ => ?_)) | (with_reducible refine Br_bt (by assumption) ?_) | (with_reducible refine Br_bf (by assumption) ?_) | (with_reducible refine Br_b (fun _ => ?_) (fun _ => ?_)) | (with_reducible refine IfK_pos (by first | assumption | omega) ?_) | (with_reducible refine IfK_neg (by first | assumption | omega) ?_) | (with_reducible refine IfK_bf (by assumption) ?_) | (with_reducible refine IfK_dec (fun _ => ?_) (fun _ => ?_)) | (with_reducible refine And.intro ?_ ?_) | simp (maxSteps := 10000000) (disch := ((try simp only [len_pushv, len_put, len_putB, List.length_take, List.length_drop, List.length_append, List.length_map, List.length_replicate, List.length_set, List.length_cons, List.length_nil, true_and, and_true]); first | done | omega | (repeat' (first | exact St.le.refl _ | assumption | refine le_pushv ?_ | refine le_put ?_ (by first | omega | (simp only [len_pushv, len_put]; omega)))))) only [W, Gives, pinsAfter, ↓reduceIte, Nat.reduceEqDiff, Nat.reduceAdd, Nat.reduceMul, Nat.reduceSub, ne_eq, Int.reduceEq, Int.reduceNeg, Int.reduceToNat, Int.reduceAdd, Int.reduceSub, Int.reduceMul, Int.reduceDiv, Int.reduceMod, Int.reduceLT, Int.reduceLE, Nat.reduceLeDiff, Nat.reduceBEq, Nat.reduceLT, code_push_Parser_told, code_push_Parser_told_k0, code_push_Parser_told_k1, code_push_Parser_told_k2, code_push_Parser_told_t0, code_push_Parser_told_t1, code_push_Parser_told_k3]))
    have e9 : toldM m = badM m r.1 := by rw [toldM, if_neg c4, if_neg c5, hr, if_pos r1]
    rw [e9] at hQ
    exact ret_stay fun _ _ => hQ _ h2 h3
  have al := recsAV_len S r.2
  have ar := recsAV_rd S r.2
  have gle : lenLA S g = some (.int .i64 m.ahead.glob.length) := hs.sg.holds.len
  have lle : lenLA S l = some (.int .i64 m.ahead.loc.length) := hs.sl.holds.len
  by_cases c3 : m.cls = 3
  · by_cases h64 : 64 < m.ahead.glob.length + r.2.length
    · (repeat' (first | (with_reducible refine @Br_pos _ _ _ _ _ _ (by first | assumption | omega) ?_) | (with_reducible refine @Br_neg _ _ _ _ _ _ (by first | assumption | omega) ?_) | (with_reducible refine @Br_dec _ _ _ _ _ _ (fun _ => ?_) (fun _ => ?_)) | (with_reducible refine Br_bt (by assumption) ?_) | (with_reducible refine Br_bf (by assumption) ?_) | (with_reducible refine Br_b (fun _ => ?_) (fun _ => ?_)) | (with_reducible refine IfK_pos (by first | assumption | omega) ?_) | (with_reducible refine IfK_neg (by first | assumption | omega) ?_) | (with_reducible refine IfK_bf (by assumption) ?_) | (with_reducible refine IfK_dec (fun _ => ?_) (fun _ => ?_)) | (with_reducible refine And.intro ?_ ?_) | simp (maxSteps := 10000000) (disch := ((try simp only [len_pushv, len_put, len_putB, List.length_take, List.length_drop, List.length_append, List.length_map, List.length_replicate, List.length_set, List.length_cons, List.length_nil, true_and, and_true]); first | done | omega | (repeat' (first | exact St.le.refl _ | assumption | refine le_pushv ?_ | refine le_put ?_ (by first | omega | (simp only [len_pushv, len_put]; omega)))))) only [W, Gives, pinsAfter, ↓reduceIte, Nat.reduceEqDiff, Nat.reduceAdd, Nat.reduceMul, Nat.reduceSub, ne_eq, Int.reduceEq, Int.reduceNeg, Int.reduceToNat, Int.reduceAdd, Int.reduceSub, Int.reduceMul, Int.reduceDiv, Int.reduceMod, Int.reduceLT, Int.reduceLE, Nat.reduceLeDiff, Nat.reduceBEq, Nat.reduceLT, code_push_Parser_told, code_push_Parser_told_k0, code_push_Parser_told_k1, code_push_Parser_told_k2, code_push_Parser_told_t0, code_push_Parser_told_t1, code_push_Parser_told_k3, hg, prow, r1, al, gle]))
      refine push_bad (e := 2) hm0 (by omega) fun S2 h2 h3 => ?_
      (repeat' (first | (with_reducible refine @Br_pos _ _ _ _ _ _ (by first | assumption | omega) ?_) | (with_reducible refine @Br_neg _ _ _ _ _ _ (by first | assumption | omega) ?_) | (with_reducible refine @Br_dec _ _ _ _ _ _ (fun _ => ?_) (fun _ => ?_)) | (with_reducible refine Br_bt (by assumption) ?_) | (with_reducible refine Br_bf (by assumption) ?_) | (with_reducible refine Br_b (fun _ => ?_) (fun _ => ?_)) | (with_reducible refine IfK_pos (by first | assumption | omega) ?_) | (with_reducible refine IfK_neg (by first | assumption | omega) ?_) | (with_reducible refine IfK_bf (by assumption) ?_) | (with_reducible refine IfK_dec (fun _ => ?_) (fun _ => ?_)) | (with_reducible refine And.intro ?_ ?_) | simp (maxSteps := 10000000) (disch := ((try simp only [len_pushv, len_put, len_putB, List.length_take, List.length_drop, List.length_append, List.length_map, List.length_replicate, List.length_set, List.length_cons, List.length_nil, true_and, and_true]); first | done | omega | (repeat' (first | exact St.le.refl _ | assumption | refine le_pushv ?_ | refine le_put ?_ (by first | omega | (simp only [len_pushv, len_put]; omega)))))) only [W, Gives, pinsAfter, ↓reduceIte, Nat.reduceEqDiff, Nat.reduceAdd, Nat.reduceMul, Nat.reduceSub, ne_eq, Int.reduceEq, Int.reduceNeg, Int.reduceToNat, Int.reduceAdd, Int.reduceSub, Int.reduceMul, Int.reduceDiv, Int.reduceMod, Int.reduceLT, Int.reduceLE, Nat.reduceLeDiff, Nat.reduceBEq, Nat.reduceLT, code_push_Parser_told, code_push_Parser_told_k0, code_push_Parser_told_k1, code_push_Parser_told_k2, code_push_Parser_told_t0, code_push_Parser_told_t1, code_push_Parser_told_k3]))
      have e9 : toldM m = badM m 2 := by rw [toldM, if_neg c4, if_neg c5, hr, if_neg (by omega), if_pos c3, if_pos h64]
      rw [e9] at hQ
      exact ret_stay fun _ _ => hQ _ h2 h3
    · (repeat' (first | (with_reducible refine @Br_pos _ _ _ _ _ _ (by first | assumption | omega) ?_) | (with_reducible refine @Br_neg _ _ _ _ _ _ (by first | assumption | omega) ?_) | (with_reducible refine @Br_dec _ _ _ _ _ _ (fun _ => ?_) (fun _ => ?_)) | (with_reducible refine Br_bt (by assumption) ?_) | (with_reducible refine Br_bf (by assumption) ?_) | (with_reducible refine Br_b (fun _ => ?_) (fun _ => ?_)) | (with_reducible refine IfK_pos (by first | assumption | omega) ?_) | (with_reducible refine IfK_neg (by first | assumption | omega) ?_) | (with_reducible refine IfK_bf (by assumption) ?_) | (with_reducible refine IfK_dec (fun _ => ?_) (fun _ => ?_)) | (with_reducible refine And.intro ?_ ?_) | simp (maxSteps := 10000000) (disch := ((try simp only [len_pushv, len_put, len_putB, List.length_take, List.length_drop, List.length_append, List.length_map, List.length_replicate, List.length_set, List.length_cons, List.length_nil, true_and, and_true]); first | done | omega | (repeat' (first | exact St.le.refl _ | assumption | refine le_pushv ?_ | refine le_put ?_ (by first | omega | (simp only [len_pushv, len_put]; omega)))))) only [W, Gives, pinsAfter, ↓reduceIte, Nat.reduceEqDiff, Nat.reduceAdd, Nat.reduceMul, Nat.reduceSub, ne_eq, Int.reduceEq, Int.reduceNeg, Int.reduceToNat, Int.reduceAdd, Int.reduceSub, Int.reduceMul, Int.reduceDiv, Int.reduceMod, Int.reduceLT, Int.reduceLE, Nat.reduceLeDiff, Nat.reduceBEq, Nat.reduceLT, code_push_Parser_told, code_push_Parser_told_k0, code_push_Parser_told_k1, code_push_Parser_told_k2, code_push_Parser_told_t0, code_push_Parser_told_t1, code_push_Parser_told_k3, hg, prow, r1, al, gle, ar]))
      refine appC_own hs.sg (by have := recsC_length r.2; omega) (by omega) (by omega) fun x' S1 hx' hr' => ?_
      have hp1 : p < S1.len := by have := hr'.len; omega
      have hg1 : S1.get p = (0, .row (prow m xb xt xo g l)) := by rw [hr'.old p hp hs.pg, hg]
      have hc1 := holds_cells hx'.holds
      (repeat' (first | (with_reducible refine @Br_pos _ _ _ _ _ _ (by first | assumption | omega) ?_) | (with_reducible refine @Br_neg _ _ _ _ _ _ (by first | assumption | omega) ?_) | (with_reducible refine @Br_dec _ _ _ _ _ _ (fun _ => ?_) (fun _ => ?_)) | (with_reducible refine Br_bt (by assumption) ?_) | (with_reducible refine Br_bf (by assumption) ?_) | (with_reducible refine Br_b (fun _ => ?_) (fun _ => ?_)) | (with_reducible refine IfK_pos (by first | assumption | omega) ?_) | (with_reducible refine IfK_neg (by first | assumption | omega) ?_) | (with_reducible refine IfK_bf (by assumption) ?_) | (with_reducible refine IfK_dec (fun _ => ?_) (fun _ => ?_)) | (with_reducible refine And.intro ?_ ?_) | simp (maxSteps := 10000000) (disch := ((try simp only [len_pushv, len_put, len_putB, List.length_take, List.length_drop, List.length_append, List.length_map, List.length_replicate, List.length_set, List.length_cons, List.length_nil, true_and, and_true]); first | done | omega | (repeat' (first | exact St.le.refl _ | assumption | refine le_pushv ?_ | refine le_put ?_ (by first | omega | (simp only [len_pushv, len_put]; omega)))))) only [W, Gives, pinsAfter, ↓reduceIte, Nat.reduceEqDiff, Nat.reduceAdd, Nat.reduceMul, Nat.reduceSub, ne_eq, Int.reduceEq, Int.reduceNeg, Int.reduceToNat, Int.reduceAdd, Int.reduceSub, Int.reduceMul, Int.reduceDiv, Int.reduceMod, Int.reduceLT, Int.reduceLE, Nat.reduceLeDiff, Nat.reduceBEq, Nat.reduceLT, code_push_Parser_told, code_push_Parser_told_k0, code_push_Parser_told_k1, code_push_Parser_told_k2, code_push_Parser_told_t0, code_push_Parser_told_t1, code_push_Parser_told_k3, hg1, prow, hc1]))
      have e8 : recsC m.ahead.glob ++ recsC r.2 = recsC (m.ahead.glob ++ r.2) := (recsC_append _ _).symm
      rw [e8] at hx'
      have hs1 := hs.setG (m' := { m with ahead := { m.ahead with glob := m.ahead.glob ++ r.2 } }) hr' (by simpa using hx') rfl rfl rfl rfl
      have hg2 : (S1.put p (0, .row (prow { m with ahead := { m.ahead with glob := m.ahead.glob ++ r.2 } } xb xt xo x' l))).get p = (0, .row (prow { m with ahead := { m.ahead with glob := m.ahead.glob ++ r.2 } } xb xt xo x' l)) := get_put_at hp1
      have hm2 : PMem (S1.put p (0, .row (prow { m with ahead := { m.ahead with glob := m.ahead.glob ++ r.2 } } xb xt xo x' l))) p { m with ahead := { m.ahead with glob := m.ahead.glob ++ r.2 } } := ⟨_, _, _, _, _, hg2, hs1.keep (by rw [len_put]; omega) (fun i hi hne => get_put_no hne) rfl rfl rfl rfl rfl⟩
      have f2 : PFr S (S1.put p (0, .row (prow { m with ahead := { m.ahead with glob := m.ahead.glob ++ r.2 } } xb xt xo x' l))) p := PFr.of hg hg2 (by rw [len_put]; exact hr'.len) (fun i hi hn => by rw [get_put_no fun e => hn (.inl e), hr'.old i hi fun h => hn (.inr (.inr (.inr (.inr (.inl h)))))]) (by
        rintro i (h | h | h | h | h | h)
        · exact .inl (.inl h)
        · exact .inl (.inr (.inl h))
        · exact .inl (.inr (.inr (.inl h)))
        · exact .inl (.inr (.inr (.inr (.inl h))))
        · exact (hr'.nam i h).imp (fun h => .inr (.inr (.inr (.inr (.inl h))))) id
        · exact .inl (.inr (.inr (.inr (.inr (.inr h))))))
      refine push_skip hm2 fun S4 h8 h9 => ?_
      (repeat' (first | (with_reducible refine @Br_pos _ _ _ _ _ _ (by first | assumption | omega) ?_) | (with_reducible refine @Br_neg _ _ _ _ _ _ (by first | assumption | omega) ?_) | (with_reducible refine @Br_dec _ _ _ _ _ _ (fun _ => ?_) (fun _ => ?_)) | (with_reducible refine Br_bt (by assumption) ?_) | (with_reducible refine Br_bf (by assumption) ?_) | (with_reducible refine Br_b (fun _ => ?_) (fun _ => ?_)) | (with_reducible refine IfK_pos (by first | assumption | omega) ?_) | (with_reducible refine IfK_neg (by first | assumption | omega) ?_) | (with_reducible refine IfK_bf (by assumption) ?_) | (with_reducible refine IfK_dec (fun _ => ?_) (fun _ => ?_)) | (with_reducible refine And.intro ?_ ?_) | simp (maxSteps := 10000000) (disch := ((try simp only [len_pushv, len_put, len_putB, List.length_take, List.length_drop, List.length_append, List.length_map, List.length_replicate, List.length_set, List.length_cons, List.length_nil, true_and, and_true]); first | done | omega | (repeat' (first | exact St.le.refl _ | assumption | refine le_pushv ?_ | refine le_put ?_ (by first | omega | (simp only [len_pushv, len_put]; omega)))))) only [W, Gives, pinsAfter, ↓reduceIte, Nat.reduceEqDiff, Nat.reduceAdd, Nat.reduceMul, Nat.reduceSub, ne_eq, Int.reduceEq, Int.reduceNeg, Int.reduceToNat, Int.reduceAdd, Int.reduceSub, Int.reduceMul, Int.reduceDiv, Int.reduceMod, Int.reduceLT, Int.reduceLE, Nat.reduceLeDiff, Nat.reduceBEq, Nat.reduceLT, code_push_Parser_told, code_push_Parser_told_k0, code_push_Parser_told_k1, code_push_Parser_told_k2, code_push_Parser_told_t0, code_push_Parser_told_t1, code_push_Parser_told_k3]))
      have e9 : toldM m = skipM { m with ahead := { m.ahead with glob := m.ahead.glob ++ r.2 } } := by rw [toldM, if_neg c4, if_neg c5, hr, if_neg (by omega), if_pos c3, if_neg h64]
      rw [e9] at hQ
      exact ret_stay fun _ _ => hQ _ h8 (f2.trans h9)
  · by_cases h64 : 64 < m.ahead.loc.length + r.2.length
    · (repeat' (first | (with_reducible refine @Br_pos _ _ _ _ _ _ (by first | assumption | omega) ?_) | (with_reducible refine @Br_neg _ _ _ _ _ _ (by first | assumption | omega) ?_) | (with_reducible refine @Br_dec _ _ _ _ _ _ (fun _ => ?_) (fun _ => ?_)) | (with_reducible refine Br_bt (by assumption) ?_) | (with_reducible refine Br_bf (by assumption) ?_) | (with_reducible refine Br_b (fun _ => ?_) (fun _ => ?_)) | (with_reducible refine IfK_pos (by first | assumption | omega) ?_) | (with_reducible refine IfK_neg (by first | assumption | omega) ?_) | (with_reducible refine IfK_bf (by assumption) ?_) | (with_reducible refine IfK_dec (fun _ => ?_) (fun _ => ?_)) | (with_reducible refine And.intro ?_ ?_) | simp (maxSteps := 10000000) (disch := ((try simp only [len_pushv, len_put, len_putB, List.length_take, List.length_drop, List.length_append, List.length_map, List.length_replicate, List.length_set, List.length_cons, List.length_nil, true_and, and_true]); first | done | omega | (repeat' (first | exact St.le.refl _ | assumption | refine le_pushv ?_ | refine le_put ?_ (by first | omega | (simp only [len_pushv, len_put]; omega)))))) only [W, Gives, pinsAfter, ↓reduceIte, Nat.reduceEqDiff, Nat.reduceAdd, Nat.reduceMul, Nat.reduceSub, ne_eq, Int.reduceEq, Int.reduceNeg, Int.reduceToNat, Int.reduceAdd, Int.reduceSub, Int.reduceMul, Int.reduceDiv, Int.reduceMod, Int.reduceLT, Int.reduceLE, Nat.reduceLeDiff, Nat.reduceBEq, Nat.reduceLT, code_push_Parser_told, code_push_Parser_told_k0, code_push_Parser_told_k1, code_push_Parser_told_k2, code_push_Parser_told_t0, code_push_Parser_told_t1, code_push_Parser_told_k3, hg, prow, r1, al, lle]))
      refine push_bad (e := 2) hm0 (by omega) fun S2 h2 h3 => ?_
      (repeat' (first | (with_reducible refine @Br_pos _ _ _ _ _ _ (by first | assumption | omega) ?_) | (with_reducible refine @Br_neg _ _ _ _ _ _ (by first | assumption | omega) ?_) | (with_reducible refine @Br_dec _ _ _ _ _ _ (fun _ => ?_) (fun _ => ?_)) | (with_reducible refine Br_bt (by assumption) ?_) | (with_reducible refine Br_bf (by assumption) ?_) | (with_reducible refine Br_b (fun _ => ?_) (fun _ => ?_)) | (with_reducible refine IfK_pos (by first | assumption | omega) ?_) | (with_reducible refine IfK_neg (by first | assumption | omega) ?_) | (with_reducible refine IfK_bf (by assumption) ?_) | (with_reducible refine IfK_dec (fun _ => ?_) (fun _ => ?_)) | (with_reducible refine And.intro ?_ ?_) | simp (maxSteps := 10000000) (disch := ((try simp only [len_pushv, len_put, len_putB, List.length_take, List.length_drop, List.length_append, List.length_map, List.length_replicate, List.length_set, List.length_cons, List.length_nil, true_and, and_true]); first | done | omega | (repeat' (first | exact St.le.refl _ | assumption | refine le_pushv ?_ | refine le_put ?_ (by first | omega | (simp only [len_pushv, len_put]; omega)))))) only [W, Gives, pinsAfter, ↓reduceIte, Nat.reduceEqDiff, Nat.reduceAdd, Nat.reduceMul, Nat.reduceSub, ne_eq, Int.reduceEq, Int.reduceNeg, Int.reduceToNat, Int.reduceAdd, Int.reduceSub, Int.reduceMul, Int.reduceDiv, Int.reduceMod, Int.reduceLT, Int.reduceLE, Nat.reduceLeDiff, Nat.reduceBEq, Nat.reduceLT, code_push_Parser_told, code_push_Parser_told_k0, code_push_Parser_told_k1, code_push_Parser_told_k2, code_push_Parser_told_t0, code_push_Parser_told_t1, code_push_Parser_told_k3]))
      have e9 : toldM m = badM m 2 := by rw [toldM, if_neg c4, if_neg c5, hr, if_neg (by omega), if_neg c3, if_pos h64]
      rw [e9] at hQ
      exact ret_stay fun _ _ => hQ _ h2 h3
    · (repeat' (first | (with_reducible refine @Br_pos _ _ _ _ _ _ (by first | assumption | omega) ?_) | (with_reducible refine @Br_neg _ _ _ _ _ _ (by first | assumption | omega) ?_) | (with_reducible refine @Br_dec _ _ _ _ _ _ (fun _ => ?_) (fun _ => ?_)) | (with_reducible refine Br_bt (by assumption) ?_) | (with_reducible refine Br_bf (by assumption) ?_) | (with_reducible refine Br_b (fun _ => ?_) (fun _ => ?_)) | (with_reducible refine IfK_pos (by first | assumption | omega) ?_) | (with_reducible refine IfK_neg (by first | assumption | omega) ?_) | (with_reducible refine IfK_bf (by assumption) ?_) | (with_reducible refine IfK_dec (fun _ => ?_) (fun _ => ?_)) | (with_reducible refine And.intro ?_ ?_) | simp (maxSteps := 10000000) (disch := ((try simp only [len_pushv, len_put, len_putB, List.length_take, List.length_drop, List.length_append, List.length_map, List.length_replicate, List.length_set, List.length_cons, List.length_nil, true_and, and_true]); first | done | omega | (repeat' (first | exact St.le.refl _ | assumption | refine le_pushv ?_ | refine le_put ?_ (by first | omega | (simp only [len_pushv, len_put]; omega)))))) only [W, Gives, pinsAfter, ↓reduceIte, Nat.reduceEqDiff, Nat.reduceAdd, Nat.reduceMul, Nat.reduceSub, ne_eq, Int.reduceEq, Int.reduceNeg, Int.reduceToNat, Int.reduceAdd, Int.reduceSub, Int.reduceMul, Int.reduceDiv, Int.reduceMod, Int.reduceLT, Int.reduceLE, Nat.reduceLeDiff, Nat.reduceBEq, Nat.reduceLT, code_push_Parser_told, code_push_Parser_told_k0, code_push_Parser_told_k1, code_push_Parser_told_k2, code_push_Parser_told_t0, code_push_Parser_told_t1, code_push_Parser_told_k3, hg, prow, r1, al, lle, ar]))
      refine appC_own hs.sl (by have := recsC_length r.2; omega) (by omega) (by omega) fun x' S1 hx' hr' => ?_
      have hp1 : p < S1.len := by have := hr'.len; omega
      have hg1 : S1.get p = (0, .row (prow m xb xt xo g l)) := by rw [hr'.old p hp hs.pl, hg]
      have hc1 := holds_cells hx'.holds
      (repeat' (first | (with_reducible refine @Br_pos _ _ _ _ _ _ (by first | assumption | omega) ?_) | (with_reducible refine @Br_neg _ _ _ _ _ _ (by first | assumption | omega) ?_) | (with_reducible refine @Br_dec _ _ _ _ _ _ (fun _ => ?_) (fun _ => ?_)) | (with_reducible refine Br_bt (by assumption) ?_) | (with_reducible refine Br_bf (by assumption) ?_) | (with_reducible refine Br_b (fun _ => ?_) (fun _ => ?_)) | (with_reducible refine IfK_pos (by first | assumption | omega) ?_) | (with_reducible refine IfK_neg (by first | assumption | omega) ?_) | (with_reducible refine IfK_bf (by assumption) ?_) | (with_reducible refine IfK_dec (fun _ => ?_) (fun _ => ?_)) | (with_reducible refine And.intro ?_ ?_) | simp (maxSteps := 10000000) (disch := ((try simp only [len_pushv, len_put, len_putB, List.length_take, List.length_drop, List.length_append, List.length_map, List.length_replicate, List.length_set, List.length_cons, List.length_nil, true_and, and_true]); first | done | omega | (repeat' (first | exact St.le.refl _ | assumption | refine le_pushv ?_ | refine le_put ?_ (by first | omega | (simp only [len_pushv, len_put]; omega)))))) only [W, Gives, pinsAfter, ↓reduceIte, Nat.reduceEqDiff, Nat.reduceAdd, Nat.reduceMul, Nat.reduceSub, ne_eq, Int.reduceEq, Int.reduceNeg, Int.reduceToNat, Int.reduceAdd, Int.reduceSub, Int.reduceMul, Int.reduceDiv, Int.reduceMod, Int.reduceLT, Int.reduceLE, Nat.reduceLeDiff, Nat.reduceBEq, Nat.reduceLT, code_push_Parser_told, code_push_Parser_told_k0, code_push_Parser_told_k1, code_push_Parser_told_k2, code_push_Parser_told_t0, code_push_Parser_told_t1, code_push_Parser_told_k3, hg1, prow, hc1]))
      have e8 : recsC m.ahead.loc ++ recsC r.2 = recsC (m.ahead.loc ++ r.2) := (recsC_append _ _).symm
      rw [e8] at hx'
      have hs1 := hs.setL (m' := { m with ahead := { m.ahead with loc := m.ahead.loc ++ r.2 } }) hr' (by simpa using hx') rfl rfl rfl rfl
      have hg2 : (S1.put p (0, .row (prow { m with ahead := { m.ahead with loc := m.ahead.loc ++ r.2 } } xb xt xo g x'))).get p = (0, .row (prow { m with ahead := { m.ahead with loc := m.ahead.loc ++ r.2 } } xb xt xo g x')) := get_put_at hp1
      have hm2 : PMem (S1.put p (0, .row (prow { m with ahead := { m.ahead with loc := m.ahead.loc ++ r.2 } } xb xt xo g x'))) p { m with ahead := { m.ahead with loc := m.ahead.loc ++ r.2 } } := ⟨_, _, _, _, _, hg2, hs1.keep (by rw [len_put]; omega) (fun i hi hne => get_put_no hne) rfl rfl rfl rfl rfl⟩
      have f2 : PFr S (S1.put p (0, .row (prow { m with ahead := { m.ahead with loc := m.ahead.loc ++ r.2 } } xb xt xo g x'))) p := PFr.of hg hg2 (by rw [len_put]; exact hr'.len) (fun i hi hn => by rw [get_put_no fun e => hn (.inl e), hr'.old i hi fun h => hn (.inr (.inr (.inr (.inr (.inr h)))))]) (by
        rintro i (h | h | h | h | h | h)
        · exact .inl (.inl h)
        · exact .inl (.inr (.inl h))
        · exact .inl (.inr (.inr (.inl h)))
        · exact .inl (.inr (.inr (.inr (.inl h))))
        · exact .inl (.inr (.inr (.inr (.inr (.inl h)))))
        · exact (hr'.nam i h).imp (fun h => .inr (.inr (.inr (.inr (.inr h))))) id)
      refine push_skip hm2 fun S4 h8 h9 => ?_
      (repeat' (first | (with_reducible refine @Br_pos _ _ _ _ _ _ (by first | assumption | omega) ?_) | (with_reducible refine @Br_neg _ _ _ _ _ _ (by first | assumption | omega) ?_) | (with_reducible refine @Br_dec _ _ _ _ _ _ (fun _ => ?_) (fun _ => ?_)) | (with_reducible refine Br_bt (by assumption) ?_) | (with_reducible refine Br_bf (by assumption) ?_) | (with_reducible refine Br_b (fun _ => ?_) (fun _ => ?_)) | (with_reducible refine IfK_pos (by first | assumption | omega) ?_) | (with_reducible refine IfK_neg (by first | assumption | omega) ?_) | (with_reducible refine IfK_bf (by assumption) ?_) | (with_reducible refine IfK_dec (fun _ => ?_) (fun _ => ?_)) | (with_reducible refine And.intro ?_ ?_) | simp (maxSteps := 10000000) (disch := ((try simp only [len_pushv, len_put, len_putB, List.length_take, List.length_drop, List.length_append, List.length_map, List.length_replicate, List.length_set, List.length_cons, List.length_nil, true_and, and_true]); first | done | omega | (repeat' (first | exact St.le.refl _ | assumption | refine le_pushv ?_ | refine le_put ?_ (by first | omega | (simp only [len_pushv, len_put]; omega)))))) only [W, Gives, pinsAfter, ↓reduceIte, Nat.reduceEqDiff, Nat.reduceAdd, Nat.reduceMul, Nat.reduceSub, ne_eq, Int.reduceEq, Int.reduceNeg, Int.reduceToNat, Int.reduceAdd, Int.reduceSub, Int.reduceMul, Int.reduceDiv, Int.reduceMod, Int.reduceLT, Int.reduceLE, Nat.reduceLeDiff, Nat.reduceBEq, Nat.reduceLT, code_push_Parser_told, code_push_Parser_told_k0, code_push_Parser_told_k1, code_push_Parser_told_k2, code_push_Parser_told_t0, code_push_Parser_told_t1, code_push_Parser_told_k3]))
      have e9 : toldM m = skipM { m with ahead := { m.ahead with loc := m.ahead.loc ++ r.2 } } := by rw [toldM, if_neg c4, if_neg c5, hr, if_neg (by omega), if_neg c3, if_neg h64]
      rw [e9] at hQ
      exact ret_stay fun _ _ => hQ _ h8 (f2.trans h9)
end Go.Proofs.YtnfiihdebonadaaGreatDoor.Abs
