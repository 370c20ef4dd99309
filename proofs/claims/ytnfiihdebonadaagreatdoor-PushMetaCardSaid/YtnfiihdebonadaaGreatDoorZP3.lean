import Derived.Test.YtnfiihdebonadaaGreatDoorZWalk4
import Derived.Test.YtnfiihdebonadaaGreatDoorZK10
set_option linter.unusedSimpArgs false
set_option linter.unusedVariables false
set_option linter.unusedSectionVars false
namespace Go.Proofs.YtnfiihdebonadaaGreatDoor.Abs

/-- A slice of one's own that is appended to: nil, or a block's first n elements. -/
def Sl (S : St) (k : Nat) (x : AV) (n : Nat) (cells : List AV) : Prop :=
  cells.length = n * k ∧ ((x = .list true 0 [] ∧ n = 0) ∨ ∃ id ver row, x = .ref id ver k 0 n ∧ id < S.len ∧ S.get id = (ver, .row row) ∧ n * k ≤ row.length ∧ row.take (n * k) = cells)

theorem Sl.nil (S : St) (k : Nat) : Sl S k (.list true 0 []) 0 [] := ⟨by simp, .inl ⟨rfl, rfl⟩⟩
theorem Sl.holds {S : St} {k n : Nat} {x : AV} {cells : List AV} (h : Sl S k x n cells) : Holds S k x n cells := by
  obtain ⟨h0, ⟨rfl, rfl⟩ | ⟨id, ver, row, rfl, h1, h2, h3, h4⟩⟩ := h
  · have : cells = [] := List.eq_nil_of_length_eq_zero (by simpa using h0)
    subst this
    exact ⟨rfl, by simp [rd]⟩
  · refine ⟨rfl, ?_⟩
    rw [rd_ref h2 (by omega), List.drop_zero, h4]
theorem Sl.under {S : St} {k n : Nat} {x : AV} {cells : List AV} (h : Sl S k x n cells) : x.under S.len = true := by
  obtain ⟨h0, ⟨rfl, rfl⟩ | ⟨id, ver, row, rfl, h1, h2, h3, h4⟩⟩ := h
  · rfl
  · simpa [AV.under] using h1
theorem Sl.frame {S S' : St} {k n : Nat} {x : AV} {cells : List AV} (h : Sl S k x n cells) (hl : S.len ≤ S'.len) (hg : ∀ i, x.names i → S'.get i = S.get i) : Sl S' k x n cells := by
  obtain ⟨h0, ⟨rfl, rfl⟩ | ⟨id, ver, row, rfl, h1, h2, h3, h4⟩⟩ := h
  · exact ⟨h0, .inl ⟨rfl, rfl⟩⟩
  · exact ⟨h0, .inr ⟨id, ver, row, rfl, by omega, by rw [hg id rfl, h2], h3, h4⟩⟩
theorem Sl.le {S S' : St} {k n : Nat} {x : AV} {cells : List AV} (h : Sl S k x n cells) (hl : S.le S') : Sl S' k x n cells := by
  refine h.frame hl.1 fun i hi => hl.2 i ?_
  have := h.under
  cases x <;> simp only [AV.names] at hi
  subst hi; simpa [AV.under] using this
theorem names_lt {S : St} {x : AV} {i : Nat} (h : x.under S.len = true) (hi : x.names i) : i < S.len := by
  cases x <;> simp only [AV.names] at hi
  subst hi; simpa [AV.under] using h

theorem subA_names {k lo hi i : Nat} {x : AV} (h : (subA k x lo hi).names i) : x.names i := by
  cases x <;> first | exact h | exact h.elim
theorem subA_under {k lo hi m : Nat} {x : AV} (h : x.under m = true) : (subA k x lo hi).under m = true := by
  cases x <;> first | exact h | rfl | skip
  case list fl n cells =>
    simp only [AV.under, subA, underL_iff] at h ⊢
    intro y hy
    exact h y (List.mem_of_mem_drop (List.mem_of_mem_take hy))
/-- What one slice's change leaves as it was. -/
structure Gr (S S' : St) (x x' : AV) : Prop where
  len : S.len ≤ S'.len
  old : ∀ i, i < S.len → ¬ x.names i → S'.get i = S.get i
  nam : ∀ i, x'.names i → x.names i ∨ S.len ≤ i

theorem Sl.append {S : St} {k b n m : Nat} {x y : AV} {cells ys : List AV} (h : Sl S k x n cells) (hy : rd S k y = some (m, ys)) (hm : ys.length = m * k) (hb : (n + m) * b ≤ 140737488355328) (hl : n + m ≤ 9223372036854775807) :
    ∃ x' S', appendA S k b x y = some (x', S') ∧ Sl S' k x' (n + m) (cells ++ ys) ∧ Gr S S' x x' := by
  rw [app_eq, hy]
  simp only [Option.bind_some]
  obtain ⟨h0, ⟨rfl, rfl⟩ | ⟨id, ver, row, rfl, h1, h2, h3, h4⟩⟩ := h
  · have : cells = [] := List.eq_nil_of_length_eq_zero (by simpa using h0)
    subst this
    rw [appC_list]
    by_cases hm0 : m = 0
    · subst hm0
      have : ys = [] := List.eq_nil_of_length_eq_zero (by simpa using hm)
      subst this
      exact ⟨_, _, rfl, ⟨by simp, .inl ⟨rfl, rfl⟩⟩, Nat.le_refl _, fun _ _ _ => rfl, fun i hi => .inl hi⟩
    · rw [someK_pos (by omega), if_pos ⟨by simp, hb, hl⟩]
      refine ⟨_, _, rfl, ⟨by simp [hm], .inr ⟨S.len, 0, ys, rfl, by rw [len_pushv]; omega, get_pushv_at rfl, by rw [Nat.zero_add]; omega, ?_⟩⟩, by rw [len_pushv]; omega, fun i hi _ => get_pushv_ne (by omega), fun i hi => .inr (Nat.le_of_eq hi)⟩
      rw [Nat.zero_add, List.take_of_length_le (by omega)]; rfl
  · rw [appC_ref, h2, cellK_row, if_pos ⟨by omega, hb, hl⟩]
    refine ⟨_, _, rfl, ⟨by simp [h0, hm, Nat.add_mul], .inr ⟨id, ver + 1, _, rfl, by rw [len_put]; exact h1, get_put_at h1, ?_, ?_⟩⟩, by rw [len_put]; omega, fun i _ hi => get_put_no fun e => hi e.symm, fun i hi => .inl hi⟩
    · rw [List.drop_zero, h4, List.length_append, h0, hm, Nat.add_mul]; omega
    · rw [List.drop_zero, h4, List.take_of_length_le]
      rw [List.length_append, h0, hm, Nat.add_mul]; omega
theorem Sl.cut0 {S : St} {n : Nat} {x : AV} {cells : List AV} (h : Sl S 1 x n cells) : sliceS S 1 x none (some (.int .i64 0)) = some (subA 1 x 0 0) ∧ Sl S 1 (subA 1 x 0 0) 0 [] ∧ ∀ i, (subA 1 x 0 0).names i → x.names i := by
  have h1 := h.holds.sub (a := none) (b := some (.int .i64 0)) (hi := 0) (lo := 0) (bnd_ok (by omega)) rfl
  refine ⟨h1, ?_, ?_⟩
  · obtain ⟨h0, ⟨rfl, rfl⟩ | ⟨id, ver, row, rfl, h1, h2, h3, h4⟩⟩ := h
    · exact ⟨by simp, .inl ⟨by simp [subA], rfl⟩⟩
    · exact ⟨by simp, .inr ⟨id, ver, row, by simp [subA], h1, h2, by omega, by simp⟩⟩
  · intro i hi
    obtain ⟨h0, ⟨rfl, rfl⟩ | ⟨id, ver, row, rfl, h1, h2, h3, h4⟩⟩ := h
    · exact hi
    · exact hi
end Go.Proofs.YtnfiihdebonadaaGreatDoor.Abs
namespace Go.Proofs.YtnfiihdebonadaaGreatDoor.Abs

def errAV : Option (Nat × Int) → AV
  | none => .val .nilIface
  | some (e, pl) => .iface Ty.fault_At (.agg [.int .i64 pl, .iface Ty.api_Errno (.int .i64 e)])
structure Ev where
  kind : Nat
  ent : Ent
  data : List UInt8
  err : Option (Nat × Int)
  at_ : Nat
  deriving DecidableEq, Inhabited
def evCells (e : Ev) (d : AV) : List AV := [.int .i64 e.kind, .str e.ent.path, .str e.ent.link, .int .i64 e.ent.kind, .int .i64 e.ent.mode, .int .i64 e.ent.uid, .int .i64 e.ent.gid, .int .i64 e.ent.mtime, .int .i64 e.ent.size, .str e.ent.user, .str e.ent.group, d, errAV e.err, .int .i64 e.at_]
structure PSt where
  state : Nat
  block : List UInt8
  at_ : Nat
  place : Int
  blank : Bool
  cls : Nat
  text : List UInt8
  ahead : Ahead
  left : Int
  pad : Int
  err : Option (Nat × Int)
  done : Bool
  out : List Ev
def prow (m : PSt) (xb xt xo g l : AV) : List AV := [.int .i64 m.state, xb, .int .i64 m.at_, .int .i64 m.place, .bool m.blank, .int .i64 m.cls, xt, g, l, .str m.ahead.name, .str m.ahead.link, .int .i64 m.left, .int .i64 m.pad, errAV m.err, .bool m.done, xo]

def Apart (x y : AV) : Prop := ∀ i, x.names i → ¬ y.names i
def owns (p : Nat) (xb xt xo g l : AV) (i : Nat) : Prop := i = p ∨ xb.names i ∨ xt.names i ∨ xo.names i ∨ g.names i ∨ l.names i
inductive Evs (S : St) (own : Nat → Prop) : List Ev → List AV → Prop
  | nil : Evs S own [] []
  | snoc {es : List Ev} {cs : List AV} (e : Ev) (d : AV) (h : Evs S own es cs) (hd : Bytes S d e.data) (hu : d.under S.len = true) (hn : ∀ i, d.names i → ¬ own i) : Evs S own (es ++ [e]) (cs ++ evCells e d)
theorem Evs.frame {S S' : St} {own own' : Nat → Prop} {es : List Ev} {cs : List AV} (h : Evs S own es cs) (hl : S.len ≤ S'.len) (hg : ∀ i, i < S.len → ¬ own i → S'.get i = S.get i) (ho : ∀ i, own' i → own i ∨ S.len ≤ i) : Evs S' own' es cs := by
  induction h with
  | nil => exact .nil
  | snoc e d h hd hu hn ih =>
    refine .snoc e d ih (Holds.keep hd fun i hi => hg i (names_lt hu hi) (hn i hi)) (AV.under_mono hl _ hu) fun i hi ho' => ?_
    rcases ho i ho' with h1 | h1
    · exact hn i hi h1
    · have := names_lt hu hi; omega

structure PS (S : St) (p : Nat) (m : PSt) (xb xt xo g l : AV) : Prop where
  hp : p < S.len
  sb : Sl S 1 xb m.block.length (m.block.map u8)
  st : Sl S 1 xt m.text.length (m.text.map u8)
  sg : Sl S 2 g m.ahead.glob.length (recsC m.ahead.glob)
  sl : Sl S 2 l m.ahead.loc.length (recsC m.ahead.loc)
  so : ∃ oc, Sl S 14 xo m.out.length oc ∧ Evs S (owns p xb xt xo g l) m.out oc
  bt : Apart xb xt
  bo : Apart xb xo
  bg : Apart xb g
  bl : Apart xb l
  t_o : Apart xt xo
  tg : Apart xt g
  tl : Apart xt l
  og : Apart xo g
  ol : Apart xo l
  gl : Apart g l
  pb : ¬ xb.names p
  pt : ¬ xt.names p
  po : ¬ xo.names p
  pg : ¬ g.names p
  pl : ¬ l.names p

theorem Sl.other {S S' : St} {k n : Nat} {x x' y : AV} {cells : List AV} (h : Sl S k y n cells) (hg : Gr S S' x x') (ha : ∀ i, x.names i → ¬ y.names i) : Sl S' k y n cells :=
  h.frame hg.len fun i hi => hg.old i (names_lt h.under hi) fun hx => ha i hx hi
theorem Gr.apart {S S' : St} {x x' y : AV} (hg : Gr S S' x x') (hu : y.under S.len = true) (ha : ∀ i, x.names i → ¬ y.names i) : ∀ i, x'.names i → ¬ y.names i := by
  intro i hi hy
  rcases hg.nam i hi with h | h
  · exact ha i h hy
  · have := names_lt hu hy; omega
theorem Gr.notp {S S' : St} {x x' : AV} {p : Nat} (hg : Gr S S' x x') (hp : p < S.len) (h : ¬ x.names p) : ¬ x'.names p := by
  intro hi
  rcases hg.nam p hi with h1 | h1
  · exact h h1
  · omega

section
variable {S S' : St} {p : Nat} {m m' : PSt} {xb xt xo g l x' : AV}
/-- What is one's own stands; the row and new blocks may turn. -/
theorem PS.keep (h : PS S p m xb xt xo g l) (hl : S.len ≤ S'.len) (hg : ∀ i, i < S.len → i ≠ p → S'.get i = S.get i)
    (e1 : m'.block = m.block) (e2 : m'.text = m.text) (e3 : m'.ahead.glob = m.ahead.glob) (e4 : m'.ahead.loc = m.ahead.loc) (e5 : m'.out = m.out) : PS S' p m' xb xt xo g l := by
  have fr : ∀ {y : AV} {k n : Nat} {cells : List AV}, Sl S k y n cells → ¬ y.names p → Sl S' k y n cells := fun hs hn => hs.frame hl fun i hi => hg i (names_lt hs.under hi) fun e => hn (e ▸ hi)
  obtain ⟨oc, h1, h2⟩ := h.so
  refine ⟨by have := h.hp; omega, by rw [e1]; exact fr h.sb h.pb, by rw [e2]; exact fr h.st h.pt, by rw [e3]; exact fr h.sg h.pg, by rw [e4]; exact fr h.sl h.pl, ⟨oc, by rw [e5]; exact fr h1 h.po, by rw [e5]; exact h2.frame hl (fun i hi hn => hg i hi fun e => hn (.inl e)) fun i hi => .inl hi⟩,
    h.bt, h.bo, h.bg, h.bl, h.t_o, h.tg, h.tl, h.og, h.ol, h.gl, h.pb, h.pt, h.po, h.pg, h.pl⟩
theorem PS.setB (h : PS S p m xb xt xo g l) (hr : Gr S S' xb x') (hs : Sl S' 1 x' m'.block.length (m'.block.map u8))
    (e2 : m'.text = m.text) (e3 : m'.ahead.glob = m.ahead.glob) (e4 : m'.ahead.loc = m.ahead.loc) (e5 : m'.out = m.out) : PS S' p m' x' xt xo g l := by
  obtain ⟨oc, h1, h2⟩ := h.so
  have ow : ∀ i, owns p x' xt xo g l i → owns p xb xt xo g l i ∨ S.len ≤ i := by
    rintro i (h | h | h)
    · exact .inl (.inl h)
    · rcases hr.nam i h with h | h
      · exact .inl (.inr (.inl h))
      · exact .inr h
    · exact .inl (.inr (.inr h))
  refine ⟨by have := h.hp; have := hr.len; omega, hs, by rw [e2]; exact h.st.other hr h.bt, by rw [e3]; exact h.sg.other hr h.bg, by rw [e4]; exact h.sl.other hr h.bl, ⟨oc, by rw [e5]; exact h1.other hr h.bo, by rw [e5]; exact h2.frame hr.len (fun i hi hn => hr.old i hi fun e => hn (.inr (.inl e))) ow⟩,
    hr.apart h.st.under h.bt, hr.apart h1.under h.bo, hr.apart h.sg.under h.bg, hr.apart h.sl.under h.bl, h.t_o, h.tg, h.tl, h.og, h.ol, h.gl, hr.notp h.hp h.pb, h.pt, h.po, h.pg, h.pl⟩
theorem PS.setT (h : PS S p m xb xt xo g l) (hr : Gr S S' xt x') (hs : Sl S' 1 x' m'.text.length (m'.text.map u8))
    (e1 : m'.block = m.block) (e3 : m'.ahead.glob = m.ahead.glob) (e4 : m'.ahead.loc = m.ahead.loc) (e5 : m'.out = m.out) : PS S' p m' xb x' xo g l := by
  obtain ⟨oc, h1, h2⟩ := h.so
  have tb : ∀ i, xt.names i → ¬ xb.names i := fun i h1 h2 => h.bt i h2 h1
  have ow : ∀ i, owns p xb x' xo g l i → owns p xb xt xo g l i ∨ S.len ≤ i := by
    rintro i (h | h | h | h)
    · exact .inl (.inl h)
    · exact .inl (.inr (.inl h))
    · rcases hr.nam i h with h | h
      · exact .inl (.inr (.inr (.inl h)))
      · exact .inr h
    · exact .inl (.inr (.inr (.inr h)))
  refine ⟨by have := h.hp; have := hr.len; omega, by rw [e1]; exact h.sb.other hr tb, hs, by rw [e3]; exact h.sg.other hr h.tg, by rw [e4]; exact h.sl.other hr h.tl, ⟨oc, by rw [e5]; exact h1.other hr h.t_o, by rw [e5]; exact h2.frame hr.len (fun i hi hn => hr.old i hi fun e => hn (.inr (.inr (.inl e)))) ow⟩,
    fun i h1 h2 => hr.apart h.sb.under tb i h2 h1, h.bo, h.bg, h.bl, hr.apart h1.under h.t_o, hr.apart h.sg.under h.tg, hr.apart h.sl.under h.tl, h.og, h.ol, h.gl, h.pb, hr.notp h.hp h.pt, h.po, h.pg, h.pl⟩
theorem PS.setG (h : PS S p m xb xt xo g l) (hr : Gr S S' g x') (hs : Sl S' 2 x' m'.ahead.glob.length (recsC m'.ahead.glob))
    (e1 : m'.block = m.block) (e2 : m'.text = m.text) (e4 : m'.ahead.loc = m.ahead.loc) (e5 : m'.out = m.out) : PS S' p m' xb xt xo x' l := by
  obtain ⟨oc, h1, h2⟩ := h.so
  have gb : ∀ i, g.names i → ¬ xb.names i := fun i h1 h2 => h.bg i h2 h1
  have gt : ∀ i, g.names i → ¬ xt.names i := fun i h1 h2 => h.tg i h2 h1
  have go : ∀ i, g.names i → ¬ xo.names i := fun i h1 h2 => h.og i h2 h1
  have ow : ∀ i, owns p xb xt xo x' l i → owns p xb xt xo g l i ∨ S.len ≤ i := by
    rintro i (h | h | h | h | h | h)
    · exact .inl (.inl h)
    · exact .inl (.inr (.inl h))
    · exact .inl (.inr (.inr (.inl h)))
    · exact .inl (.inr (.inr (.inr (.inl h))))
    · rcases hr.nam i h with h | h
      · exact .inl (.inr (.inr (.inr (.inr (.inl h)))))
      · exact .inr h
    · exact .inl (.inr (.inr (.inr (.inr (.inr h)))))
  refine ⟨by have := h.hp; have := hr.len; omega, by rw [e1]; exact h.sb.other hr gb, by rw [e2]; exact h.st.other hr gt, hs, by rw [e4]; exact h.sl.other hr h.gl, ⟨oc, by rw [e5]; exact h1.other hr go, by rw [e5]; exact h2.frame hr.len (fun i hi hn => hr.old i hi fun e => hn (.inr (.inr (.inr (.inr (.inl e)))))) ow⟩,
    h.bt, h.bo, fun i h1 h2 => hr.apart h.sb.under gb i h2 h1, h.bl, h.t_o, fun i h1 h2 => hr.apart h.st.under gt i h2 h1, h.tl, fun i h3 h4 => hr.apart h1.under go i h4 h3, h.ol, hr.apart h.sl.under h.gl, h.pb, h.pt, h.po, hr.notp h.hp h.pg, h.pl⟩
theorem PS.setL (h : PS S p m xb xt xo g l) (hr : Gr S S' l x') (hs : Sl S' 2 x' m'.ahead.loc.length (recsC m'.ahead.loc))
    (e1 : m'.block = m.block) (e2 : m'.text = m.text) (e3 : m'.ahead.glob = m.ahead.glob) (e5 : m'.out = m.out) : PS S' p m' xb xt xo g x' := by
  obtain ⟨oc, h1, h2⟩ := h.so
  have lb : ∀ i, l.names i → ¬ xb.names i := fun i h1 h2 => h.bl i h2 h1
  have lt : ∀ i, l.names i → ¬ xt.names i := fun i h1 h2 => h.tl i h2 h1
  have lo : ∀ i, l.names i → ¬ xo.names i := fun i h1 h2 => h.ol i h2 h1
  have lg : ∀ i, l.names i → ¬ g.names i := fun i h1 h2 => h.gl i h2 h1
  have ow : ∀ i, owns p xb xt xo g x' i → owns p xb xt xo g l i ∨ S.len ≤ i := by
    rintro i (h | h | h | h | h | h)
    · exact .inl (.inl h)
    · exact .inl (.inr (.inl h))
    · exact .inl (.inr (.inr (.inl h)))
    · exact .inl (.inr (.inr (.inr (.inl h))))
    · exact .inl (.inr (.inr (.inr (.inr (.inl h)))))
    · rcases hr.nam i h with h | h
      · exact .inl (.inr (.inr (.inr (.inr (.inr h)))))
      · exact .inr h
  refine ⟨by have := h.hp; have := hr.len; omega, by rw [e1]; exact h.sb.other hr lb, by rw [e2]; exact h.st.other hr lt, by rw [e3]; exact h.sg.other hr lg, hs, ⟨oc, by rw [e5]; exact h1.other hr lo, by rw [e5]; exact h2.frame hr.len (fun i hi hn => hr.old i hi fun e => hn (.inr (.inr (.inr (.inr (.inr e)))))) ow⟩,
    h.bt, h.bo, h.bg, fun i h1 h2 => hr.apart h.sb.under lb i h2 h1, h.t_o, h.tg, fun i h1 h2 => hr.apart h.st.under lt i h2 h1, h.og, fun i h3 h4 => hr.apart h1.under lo i h4 h3, fun i h1 h2 => hr.apart h.sg.under lg i h2 h1, h.pb, h.pt, h.po, h.pg, hr.notp h.hp h.pl⟩
/-- An event more. -/
theorem PS.setO (h : PS S p m xb xt xo g l) (hr : Gr S S' xo x') {oc : List AV} (hoc : ∃ oc', oc = oc' ∧ Sl S 14 xo m.out.length oc' ∧ Evs S (owns p xb xt xo g l) m.out oc') {e : Ev} {d : AV} (hs : Sl S' 14 x' (m.out.length + 1) (oc ++ evCells e d))
    (hd : Bytes S d e.data) (hu : d.under S.len = true) (hn : ∀ i, d.names i → ¬ owns p xb xt xo g l i)
    (e1 : m'.block = m.block) (e2 : m'.text = m.text) (e3 : m'.ahead.glob = m.ahead.glob) (e4 : m'.ahead.loc = m.ahead.loc) (e5 : m'.out = m.out ++ [e]) : PS S' p m' xb xt x' g l := by
  obtain ⟨oc', rfl, h1, h2⟩ := hoc
  have ob : ∀ i, xo.names i → ¬ xb.names i := fun i h1 h2 => h.bo i h2 h1
  have ot : ∀ i, xo.names i → ¬ xt.names i := fun i h1 h2 => h.t_o i h2 h1
  have own' : ∀ i, owns p xb xt x' g l i → owns p xb xt xo g l i ∨ S.len ≤ i := by
    rintro i (h | h | h | h | h)
    · exact .inl (.inl h)
    · exact .inl (.inr (.inl h))
    · exact .inl (.inr (.inr (.inl h)))
    · rcases hr.nam i h with h | h
      · exact .inl (.inr (.inr (.inr (.inl h))))
      · exact .inr h
    · exact .inl (.inr (.inr (.inr (.inr h))))
  have fr : ∀ i, i < S.len → ¬ owns p xb xt xo g l i → S'.get i = S.get i := fun i hi hn => hr.old i hi fun e => hn (.inr (.inr (.inr (.inl e))))
  refine ⟨by have := h.hp; have := hr.len; omega, by rw [e1]; exact h.sb.other hr ob, by rw [e2]; exact h.st.other hr ot, by rw [e3]; exact h.sg.other hr h.og, by rw [e4]; exact h.sl.other hr h.ol, ⟨oc ++ evCells e d, by rw [e5]; simpa using hs, ?_⟩,
    h.bt, fun i h3 h4 => hr.apart h.sb.under ob i h4 h3, h.bg, h.bl, fun i h3 h4 => hr.apart h.st.under ot i h4 h3, h.tg, h.tl, hr.apart h.sg.under h.og, hr.apart h.sl.under h.ol, h.gl, h.pb, h.pt, hr.notp h.hp h.po, h.pg, h.pl⟩
  rw [e5]
  refine .snoc e d (h2.frame hr.len fr own') (Holds.keep hd fun i hi => fr i (names_lt hu hi) (hn i hi)) (AV.under_mono hr.len _ hu) fun i hi ho => ?_
  rcases own' i ho with h3 | h3
  · exact hn i hi h3
  · have := names_lt hu hi; omega
end
end Go.Proofs.YtnfiihdebonadaaGreatDoor.Abs
namespace Go.Proofs.YtnfiihdebonadaaGreatDoor.Abs

def PMem (S : St) (p : Nat) (m : PSt) : Prop := ∃ xb xt xo g l, S.get p = (0, .row (prow m xb xt xo g l)) ∧ PS S p m xb xt xo g l
def POwn (S : St) (p i : Nat) : Prop := i = p ∨ ∃ v cells c, S.get p = (v, .row cells) ∧ c ∈ cells ∧ c.names i
theorem errAV_names (e : Option (Nat × Int)) (i : Nat) : ¬ (errAV e).names i := by cases e <;> simp [errAV, AV.names]
theorem POwn_iff {S : St} {p i : Nat} {m : PSt} {xb xt xo g l : AV} (hg : S.get p = (0, .row (prow m xb xt xo g l))) : POwn S p i ↔ owns p xb xt xo g l i := by
  have he := errAV_names m.err i
  constructor
  · rintro (h | ⟨v, cells, c, h1, h2, h3⟩)
    · exact .inl h
    · rw [hg] at h1
      injection h1 with h1 h4
      injection h4 with h4
      subst h4
      simp only [prow, List.mem_cons, List.not_mem_nil, or_false] at h2
      unfold owns
      rcases h2 with rfl | rfl | rfl | rfl | rfl | rfl | rfl | rfl | rfl | rfl | rfl | rfl | rfl | rfl | rfl | rfl <;> first | exact (show False from h3).elim | exact absurd h3 he | simp [h3]
  · rintro (h | h | h | h | h | h)
    · exact .inl h
    all_goals refine .inr ⟨_, _, _, hg, ?_, h⟩; simp [prow]
structure PFr (S S' : St) (p : Nat) : Prop where
  len : S.len ≤ S'.len
  old : ∀ i, i < S.len → ¬ POwn S p i → S'.get i = S.get i
  own : ∀ i, POwn S' p i → POwn S p i ∨ S.len ≤ i
theorem PFr.refl (S : St) (p : Nat) : PFr S S p := ⟨Nat.le_refl _, fun _ _ _ => rfl, fun _ h => .inl h⟩
theorem PFr.trans {A B C : St} {p : Nat} (h : PFr A B p) (k : PFr B C p) : PFr A C p := by
  refine ⟨Nat.le_trans h.len k.len, fun i hi hn => ?_, fun i hi => ?_⟩
  · have h1 := h.len
    rw [k.old i (by omega) fun ho => (h.own i ho).elim hn (by omega), h.old i hi hn]
  · rcases k.own i hi with h1 | h1
    · exact h.own i h1
    · have := h.len; exact .inr (by omega)
theorem PFr.of {S S' : St} {p : Nat} {m m' : PSt} {xb xt xo g l xb' xt' xo' g' l' : AV} (hg : S.get p = (0, .row (prow m xb xt xo g l))) (hg' : S'.get p = (0, .row (prow m' xb' xt' xo' g' l'))) (hl : S.len ≤ S'.len)
    (old : ∀ i, i < S.len → ¬ owns p xb xt xo g l i → S'.get i = S.get i) (own : ∀ i, owns p xb' xt' xo' g' l' i → owns p xb xt xo g l i ∨ S.len ≤ i) : PFr S S' p :=
  ⟨hl, fun i hi hn => old i hi fun h => hn ((POwn_iff hg).2 h), fun i hi => (own i ((POwn_iff hg').1 hi)).imp (POwn_iff hg).2 id⟩
/-- Bytes that are not the parser's stay. -/
theorem PFr.bytes {S S' : St} {p : Nat} {x : AV} {l : List UInt8} (h : PFr S S' p) (hx : Bytes S x l) (hu : x.under S.len = true) (hn : ∀ i, x.names i → ¬ POwn S p i) : Bytes S' x l ∧ x.under S'.len = true ∧ ∀ i, x.names i → ¬ POwn S' p i :=
  ⟨Holds.keep hx fun i hi => h.old i (names_lt hu hi) (hn i hi), AV.under_mono h.len _ hu, fun i hi ho => (h.own i ho).elim (hn i hi) fun h1 => by have := names_lt hu hi; omega⟩

theorem optK_of {α : Type} {x : Option α} {a : α} {F : α → Prop} (h : x = some a) (hF : F a) : optK x F := by rw [h]; exact hF
theorem app_own {S : St} {k b n m : Nat} {x y : AV} {cells ys : List AV} {F : AV × St → Prop} (h : Sl S k x n cells) (hy : rd S k y = some (m, ys)) (hm : ys.length = m * k) (hb : (n + m) * b ≤ 140737488355328) (hl : n + m ≤ 9223372036854775807)
    (hF : ∀ x' S', Sl S' k x' (n + m) (cells ++ ys) → Gr S S' x x' → F (x', S')) : optK (appendA S k b x y) F := by
  obtain ⟨x', S', h1, h2, h3⟩ := h.append hy hm hb hl
  exact optK_of h1 (hF x' S' h2 h3)

theorem appC_own {S : St} {k b n m : Nat} {x : AV} {cells ys : List AV} {F : AV × St → Prop} (h : Sl S k x n cells) (hm : ys.length = m * k) (hb : (n + m) * b ≤ 140737488355328) (hl : n + m ≤ 9223372036854775807)
    (hF : ∀ x' S', Sl S' k x' (n + m) (cells ++ ys) → Gr S S' x x' → F (x', S')) : optK (appendC S k b x m ys) F := by
  have e : appendA S k b x (.list true m ys) = appendC S k b x m ys := by rw [app_eq, rd_l hm]; rfl
  rw [← e]
  exact app_own h (rd_l hm) hm hb hl hF
theorem fault_New {W0 : World} {S : St} {e : Nat} {pl : Int} : Gives Pr W0 Fn.fault_New [.int .i64 e, .int .i64 pl] S (errAV (if e = 0 then none else some (e, pl))) := by
  refine in_fault_New (by simp) ?_
  (repeat' (first | (with_reducible refine @Br_pos _ _ _ _ _ _ (by first | assumption | omega) ?_) | (with_reducible refine @Br_neg _ _ _ _ _ _ (by first | assumption | omega) ?_) | (with_reducible refine @Br_dec _ _ _ _ _ _ (fun _ => ?_) (fun _ => ?_)) | (with_reducible refine Br_bt (by assumption) ?_) | (with_reducible refine Br_bf (by assumption) ?_) | (with_reducible refine Br_b (fun _ => ?_) (fun _ => ?_)) | (with_reducible refine IfK_pos (by first | assumption | omega) ?_) | (with_reducible refine IfK_neg (by first | assumption | omega) ?_) | (with_reducible refine IfK_bf (by assumption) ?_) | (with_reducible refine IfK_dec (fun _ => ?_) (fun _ => ?_)) | (with_reducible refine And.intro ?_ ?_) | simp (maxSteps := 10000000) (disch := ((try simp only [len_pushv, len_put, len_putB, List.length_take, List.length_drop, List.length_append, List.length_map, List.length_replicate, List.length_set, List.length_cons, List.length_nil, true_and, and_true]); first | done | omega | (repeat' (first | exact St.le.refl _ | assumption | refine le_pushv ?_ | refine le_put ?_ (by first | omega | (simp only [len_pushv, len_put]; omega)))))) only [W, Gives, pinsAfter, ↓reduceIte, Nat.reduceEqDiff, Nat.reduceAdd, Nat.reduceMul, Nat.reduceSub, ne_eq, Int.reduceEq, Int.reduceNeg, Int.reduceToNat, Int.reduceAdd, Int.reduceSub, Int.reduceMul, Int.reduceDiv, Int.reduceMod, Int.reduceLT, Int.reduceLE, Nat.reduceLeDiff, Nat.reduceBEq, Nat.reduceLT, code_fault_New, code_fault_New_k0]))
  · rename_i h
    refine ret_same rfl ⟨rfl, ?_⟩
    rw [if_pos (by omega)]; rfl
  · rename_i h
    refine ret_same rfl ⟨rfl, ?_⟩
    rw [if_neg (by omega)]; rfl

def PSt.new : PSt := ⟨0, [], 0, 0, false, 0, [], ⟨[], [], [], []⟩, 0, 0, none, false, []⟩
theorem push_New {W0 : World} {S : St} {Q : AV → St → Prop} (hQ : ∀ S', PMem S' S.len .new → S.le S' → (∀ i, POwn S' S.len i → i = S.len) → Q (.ptr S.len 0 0) S') : CallsA Pr W0 Fn.push_New [] S Q := by
  refine in_push_New (by simp) ?_
  (repeat' (first | (with_reducible refine @Br_pos _ _ _ _ _ _ (by first | assumption | omega) ?_) | (with_reducible refine @Br_neg _ _ _ _ _ _ (by first | assumption | omega) ?_) | (with_reducible refine @Br_dec _ _ _ _ _ _ (fun _ => ?_) (fun _ => ?_)) | (with_reducible refine Br_bt (by assumption) ?_) | (with_reducible refine Br_bf (by assumption) ?_) | (with_reducible refine Br_b (fun _ => ?_) (fun _ => ?_)) | (with_reducible refine IfK_pos (by first | assumption | omega) ?_) | (with_reducible refine IfK_neg (by first | assumption | omega) ?_) | (with_reducible refine IfK_bf (by assumption) ?_) | (with_reducible refine IfK_dec (fun _ => ?_) (fun _ => ?_)) | (with_reducible refine And.intro ?_ ?_) | simp (maxSteps := 10000000) (disch := ((try simp only [len_pushv, len_put, len_putB, List.length_take, List.length_drop, List.length_append, List.length_map, List.length_replicate, List.length_set, List.length_cons, List.length_nil, true_and, and_true]); first | done | omega | (repeat' (first | exact St.le.refl _ | assumption | refine le_pushv ?_ | refine le_put ?_ (by first | omega | (simp only [len_pushv, len_put]; omega)))))) only [W, Gives, pinsAfter, ↓reduceIte, Nat.reduceEqDiff, Nat.reduceAdd, Nat.reduceMul, Nat.reduceSub, ne_eq, Int.reduceEq, Int.reduceNeg, Int.reduceToNat, Int.reduceAdd, Int.reduceSub, Int.reduceMul, Int.reduceDiv, Int.reduceMod, Int.reduceLT, Int.reduceLE, Nat.reduceLeDiff, Nat.reduceBEq, Nat.reduceLT, code_push_New]))
  refine ret_stay fun _ _ => ?_
  have hg : (S.pushv 0 (.row (prow .new (.list true 0 []) (.list true 0 []) (.list true 0 []) (.list true 0 []) (.list true 0 [])))).get S.len = (0, .row (prow .new (.list true 0 []) (.list true 0 []) (.list true 0 []) (.list true 0 []) (.list true 0 []))) := get_pushv_at rfl
  have nn : ∀ i, ¬ (AV.list true 0 []).names i := fun i h => h
  refine hQ _ ⟨_, _, _, _, _, hg, by rw [len_pushv]; omega, Sl.nil _ _, Sl.nil _ _, Sl.nil _ _, Sl.nil _ _, ⟨[], Sl.nil _ _, .nil⟩, ?_, ?_, ?_, ?_, ?_, ?_, ?_, ?_, ?_, ?_, nn _, nn _, nn _, nn _, nn _⟩ (by repeat' (first | exact St.le.refl _ | assumption | refine le_pushv ?_ | refine le_put ?_ (by first | omega | (simp only [len_pushv, len_put]; omega)) | refine le_trunc ?_ (by first | omega | (simp only [len_pushv, len_put]; omega)))) ?_
  all_goals try (intro i h; exact absurd h (nn i))
  intro i h
  rcases (POwn_iff hg).1 h with h | h | h | h | h | h
  · exact h
  all_goals exact absurd h (nn i)

theorem push_At {W0 : World} {S : St} {p : Nat} {m : PSt} (hm : PMem S p m) : Gives Pr W0 Fn.push_Parser_At [.ptr p 0 0] S (.int .i64 m.at_) := by
  obtain ⟨xb, xt, xo, g, l, hg, hs⟩ := hm
  refine in_push_Parser_At (by simp) ?_
  (repeat' (first | (with_reducible refine @Br_pos _ _ _ _ _ _ (by first | assumption | omega) ?_) | (with_reducible refine @Br_neg _ _ _ _ _ _ (by first | assumption | omega) ?_) | (with_reducible refine @Br_dec _ _ _ _ _ _ (fun _ => ?_) (fun _ => ?_)) | (with_reducible refine Br_bt (by assumption) ?_) | (with_reducible refine Br_bf (by assumption) ?_) | (with_reducible refine Br_b (fun _ => ?_) (fun _ => ?_)) | (with_reducible refine IfK_pos (by first | assumption | omega) ?_) | (with_reducible refine IfK_neg (by first | assumption | omega) ?_) | (with_reducible refine IfK_bf (by assumption) ?_) | (with_reducible refine IfK_dec (fun _ => ?_) (fun _ => ?_)) | (with_reducible refine And.intro ?_ ?_) | simp (maxSteps := 10000000) (disch := ((try simp only [len_pushv, len_put, len_putB, List.length_take, List.length_drop, List.length_append, List.length_map, List.length_replicate, List.length_set, List.length_cons, List.length_nil, true_and, and_true]); first | done | omega | (repeat' (first | exact St.le.refl _ | assumption | refine le_pushv ?_ | refine le_put ?_ (by first | omega | (simp only [len_pushv, len_put]; omega)))))) only [W, Gives, pinsAfter, ↓reduceIte, Nat.reduceEqDiff, Nat.reduceAdd, Nat.reduceMul, Nat.reduceSub, ne_eq, Int.reduceEq, Int.reduceNeg, Int.reduceToNat, Int.reduceAdd, Int.reduceSub, Int.reduceMul, Int.reduceDiv, Int.reduceMod, Int.reduceLT, Int.reduceLE, Nat.reduceLeDiff, Nat.reduceBEq, Nat.reduceLT, code_push_Parser_At, hg, prow]))
  exact ret_same rfl ⟨rfl, rfl⟩
theorem errAV_nil (e : Option (Nat × Int)) : eqI (errAV e) (.val .nilIface) = some e.isNone := by cases e <;> rfl
theorem errAV_under (e : Option (Nat × Int)) (n : Nat) : (errAV e).under n = true := by cases e <;> rfl
def endErr (m : PSt) : Option (Nat × Int) := match m.err with
  | some e => some e
  | none => if m.done then none else some (5, m.at_)
theorem push_End {W0 : World} {S : St} {p : Nat} {m : PSt} (hm : PMem S p m) : Gives Pr W0 Fn.push_Parser_End [.ptr p 0 0] S (errAV (endErr m)) := by
  obtain ⟨xb, xt, xo, g, l, hg, hs⟩ := hm
  refine in_push_Parser_End (by simp) ?_
  generalize hv : errAV (endErr m) = v
  have he := errAV_nil m.err
  cases h : m.err with
  | some e =>
    rw [h] at he
    (repeat' (first | (with_reducible refine @Br_pos _ _ _ _ _ _ (by first | assumption | omega) ?_) | (with_reducible refine @Br_neg _ _ _ _ _ _ (by first | assumption | omega) ?_) | (with_reducible refine @Br_dec _ _ _ _ _ _ (fun _ => ?_) (fun _ => ?_)) | (with_reducible refine Br_bt (by assumption) ?_) | (with_reducible refine Br_bf (by assumption) ?_) | (with_reducible refine Br_b (fun _ => ?_) (fun _ => ?_)) | (with_reducible refine IfK_pos (by first | assumption | omega) ?_) | (with_reducible refine IfK_neg (by first | assumption | omega) ?_) | (with_reducible refine IfK_bf (by assumption) ?_) | (with_reducible refine IfK_dec (fun _ => ?_) (fun _ => ?_)) | (with_reducible refine And.intro ?_ ?_) | simp (maxSteps := 10000000) (disch := ((try simp only [len_pushv, len_put, len_putB, List.length_take, List.length_drop, List.length_append, List.length_map, List.length_replicate, List.length_set, List.length_cons, List.length_nil, true_and, and_true]); first | done | omega | (repeat' (first | exact St.le.refl _ | assumption | refine le_pushv ?_ | refine le_put ?_ (by first | omega | (simp only [len_pushv, len_put]; omega)))))) only [W, Gives, pinsAfter, ↓reduceIte, Nat.reduceEqDiff, Nat.reduceAdd, Nat.reduceMul, Nat.reduceSub, ne_eq, Int.reduceEq, Int.reduceNeg, Int.reduceToNat, Int.reduceAdd, Int.reduceSub, Int.reduceMul, Int.reduceDiv, Int.reduceMod, Int.reduceLT, Int.reduceLE, Nat.reduceLeDiff, Nat.reduceBEq, Nat.reduceLT, code_push_Parser_End, code_push_Parser_End_k0, hg, prow, he, h, Option.isNone_some]))
    exact ret_same (errAV_under _ _) ⟨rfl, by rw [← hv, endErr, h]⟩
  | none =>
    rw [h] at he
    cases hd : m.done with
    | true =>
      (repeat' (first | (with_reducible refine @Br_pos _ _ _ _ _ _ (by first | assumption | omega) ?_) | (with_reducible refine @Br_neg _ _ _ _ _ _ (by first | assumption | omega) ?_) | (with_reducible refine @Br_dec _ _ _ _ _ _ (fun _ => ?_) (fun _ => ?_)) | (with_reducible refine Br_bt (by assumption) ?_) | (with_reducible refine Br_bf (by assumption) ?_) | (with_reducible refine Br_b (fun _ => ?_) (fun _ => ?_)) | (with_reducible refine IfK_pos (by first | assumption | omega) ?_) | (with_reducible refine IfK_neg (by first | assumption | omega) ?_) | (with_reducible refine IfK_bf (by assumption) ?_) | (with_reducible refine IfK_dec (fun _ => ?_) (fun _ => ?_)) | (with_reducible refine And.intro ?_ ?_) | simp (maxSteps := 10000000) (disch := ((try simp only [len_pushv, len_put, len_putB, List.length_take, List.length_drop, List.length_append, List.length_map, List.length_replicate, List.length_set, List.length_cons, List.length_nil, true_and, and_true]); first | done | omega | (repeat' (first | exact St.le.refl _ | assumption | refine le_pushv ?_ | refine le_put ?_ (by first | omega | (simp only [len_pushv, len_put]; omega)))))) only [W, Gives, pinsAfter, ↓reduceIte, Nat.reduceEqDiff, Nat.reduceAdd, Nat.reduceMul, Nat.reduceSub, ne_eq, Int.reduceEq, Int.reduceNeg, Int.reduceToNat, Int.reduceAdd, Int.reduceSub, Int.reduceMul, Int.reduceDiv, Int.reduceMod, Int.reduceLT, Int.reduceLE, Nat.reduceLeDiff, Nat.reduceBEq, Nat.reduceLT, code_push_Parser_End, code_push_Parser_End_k0, hg, prow, he, h, hd, Option.isNone_none]))
      exact ret_same rfl ⟨rfl, by rw [← hv, endErr, h]; simp [hd, errAV]⟩
    | false =>
      (repeat' (first | (with_reducible refine @Br_pos _ _ _ _ _ _ (by first | assumption | omega) ?_) | (with_reducible refine @Br_neg _ _ _ _ _ _ (by first | assumption | omega) ?_) | (with_reducible refine @Br_dec _ _ _ _ _ _ (fun _ => ?_) (fun _ => ?_)) | (with_reducible refine Br_bt (by assumption) ?_) | (with_reducible refine Br_bf (by assumption) ?_) | (with_reducible refine Br_b (fun _ => ?_) (fun _ => ?_)) | (with_reducible refine IfK_pos (by first | assumption | omega) ?_) | (with_reducible refine IfK_neg (by first | assumption | omega) ?_) | (with_reducible refine IfK_bf (by assumption) ?_) | (with_reducible refine IfK_dec (fun _ => ?_) (fun _ => ?_)) | (with_reducible refine And.intro ?_ ?_) | simp (maxSteps := 10000000) (disch := ((try simp only [len_pushv, len_put, len_putB, List.length_take, List.length_drop, List.length_append, List.length_map, List.length_replicate, List.length_set, List.length_cons, List.length_nil, true_and, and_true]); first | done | omega | (repeat' (first | exact St.le.refl _ | assumption | refine le_pushv ?_ | refine le_put ?_ (by first | omega | (simp only [len_pushv, len_put]; omega)))))) only [W, Gives, pinsAfter, ↓reduceIte, Nat.reduceEqDiff, Nat.reduceAdd, Nat.reduceMul, Nat.reduceSub, ne_eq, Int.reduceEq, Int.reduceNeg, Int.reduceToNat, Int.reduceAdd, Int.reduceSub, Int.reduceMul, Int.reduceDiv, Int.reduceMod, Int.reduceLT, Int.reduceLE, Nat.reduceLeDiff, Nat.reduceBEq, Nat.reduceLT, code_push_Parser_End, code_push_Parser_End_k0, hg, prow, he, h, hd, Option.isNone_none]))
      refine (fault_New (e := 5) (pl := m.at_)).go ?_
      (repeat' (first | (with_reducible refine @Br_pos _ _ _ _ _ _ (by first | assumption | omega) ?_) | (with_reducible refine @Br_neg _ _ _ _ _ _ (by first | assumption | omega) ?_) | (with_reducible refine @Br_dec _ _ _ _ _ _ (fun _ => ?_) (fun _ => ?_)) | (with_reducible refine Br_bt (by assumption) ?_) | (with_reducible refine Br_bf (by assumption) ?_) | (with_reducible refine Br_b (fun _ => ?_) (fun _ => ?_)) | (with_reducible refine IfK_pos (by first | assumption | omega) ?_) | (with_reducible refine IfK_neg (by first | assumption | omega) ?_) | (with_reducible refine IfK_bf (by assumption) ?_) | (with_reducible refine IfK_dec (fun _ => ?_) (fun _ => ?_)) | (with_reducible refine And.intro ?_ ?_) | simp (maxSteps := 10000000) (disch := ((try simp only [len_pushv, len_put, len_putB, List.length_take, List.length_drop, List.length_append, List.length_map, List.length_replicate, List.length_set, List.length_cons, List.length_nil, true_and, and_true]); first | done | omega | (repeat' (first | exact St.le.refl _ | assumption | refine le_pushv ?_ | refine le_put ?_ (by first | omega | (simp only [len_pushv, len_put]; omega)))))) only [W, Gives, pinsAfter, ↓reduceIte, Nat.reduceEqDiff, Nat.reduceAdd, Nat.reduceMul, Nat.reduceSub, ne_eq, Int.reduceEq, Int.reduceNeg, Int.reduceToNat, Int.reduceAdd, Int.reduceSub, Int.reduceMul, Int.reduceDiv, Int.reduceMod, Int.reduceLT, Int.reduceLE, Nat.reduceLeDiff, Nat.reduceBEq, Nat.reduceLT, code_push_Parser_End, code_push_Parser_End_k0]))
      exact ret_same (errAV_under _ _) ⟨rfl, by rw [← hv, endErr, h]; simp [hd]⟩

theorem evCells_length (e : Ev) (d : AV) : (evCells e d).length = 14 := rfl
theorem push_say {W0 : World} {S : St} {p : Nat} {m : PSt} (hm : PMem S p m) {e : Ev} {d : AV} (hd : Bytes S d e.data) (hu : d.under S.len = true) (hn : ∀ i, d.names i → ¬ POwn S p i) (hl : m.out.length ≤ 1000000) {Q : AV → St → Prop}
    (hQ : ∀ S', PMem S' p { m with out := m.out ++ [{ e with at_ := m.at_ }] } → PFr S S' p → Q (.tup []) S') : CallsA Pr W0 Fn.push_Parser_say [.ptr p 0 0, .agg (evCells e d)] S Q := by
  obtain ⟨xb, xt, xo, g, l, hg, hs⟩ := hm
  obtain ⟨oc, ho, he⟩ := hs.so
  have hp := hs.hp
  refine in_push_Parser_say (by simp) ?_
  (repeat' (first | (with_reducible refine @Br_pos _ _ _ _ _ _ (by first | assumption | omega) ?_) | (with_reducible refine @Br_neg _ _ _ _ _ _ (by first | assumption | omega) ?_) | (with_reducible refine @Br_dec _ _ _ _ _ _ (fun _ => ?_) (fun _ => ?_)) | (with_reducible refine Br_bt (by assumption) ?_) | (with_reducible refine Br_bf (by assumption) ?_) | (with_reducible refine Br_b (fun _ => ?_) (fun _ => ?_)) | (with_reducible refine IfK_pos (by first | assumption | omega) ?_) | (with_reducible refine IfK_neg (by first | assumption | omega) ?_) | (with_reducible refine IfK_bf (by assumption) ?_) | (with_reducible refine IfK_dec (fun _ => ?_) (fun _ => ?_)) | (with_reducible refine And.intro ?_ ?_) | simp (maxSteps := 10000000) (disch := ((try simp only [len_pushv, len_put, len_putB, List.length_take, List.length_drop, List.length_append, List.length_map, List.length_replicate, List.length_set, List.length_cons, List.length_nil, true_and, and_true]); first | done | omega | (repeat' (first | exact St.le.refl _ | assumption | refine le_pushv ?_ | refine le_put ?_ (by first | omega | (simp only [len_pushv, len_put]; omega)))))) only [W, Gives, pinsAfter, ↓reduceIte, Nat.reduceEqDiff, Nat.reduceAdd, Nat.reduceMul, Nat.reduceSub, ne_eq, Int.reduceEq, Int.reduceNeg, Int.reduceToNat, Int.reduceAdd, Int.reduceSub, Int.reduceMul, Int.reduceDiv, Int.reduceMod, Int.reduceLT, Int.reduceLE, Nat.reduceLeDiff, Nat.reduceBEq, Nat.reduceLT, code_push_Parser_say, evCells, hg, prow]))
  refine appC_own (ho.le (by repeat' (first | exact St.le.refl _ | assumption | refine le_pushv ?_ | refine le_put ?_ (by first | omega | (simp only [len_pushv, len_put]; omega)) | refine le_trunc ?_ (by first | omega | (simp only [len_pushv, len_put]; omega))))) rfl (by omega) (by omega) fun x' S' hx' hr => ?_
  have hpp : p < S'.len := by have := hr.len; rw [len_pushv] at this; omega
  have hg' : S'.get p = (0, .row (prow m xb xt xo g l)) := by
    rw [hr.old p (by rw [len_pushv]; omega) hs.po, get_pushv_ne (by omega), hg]
  have hc := holds_cells hx'.holds
  (repeat' (first | (with_reducible refine @Br_pos _ _ _ _ _ _ (by first | assumption | omega) ?_) | (with_reducible refine @Br_neg _ _ _ _ _ _ (by first | assumption | omega) ?_) | (with_reducible refine @Br_dec _ _ _ _ _ _ (fun _ => ?_) (fun _ => ?_)) | (with_reducible refine Br_bt (by assumption) ?_) | (with_reducible refine Br_bf (by assumption) ?_) | (with_reducible refine Br_b (fun _ => ?_) (fun _ => ?_)) | (with_reducible refine IfK_pos (by first | assumption | omega) ?_) | (with_reducible refine IfK_neg (by first | assumption | omega) ?_) | (with_reducible refine IfK_bf (by assumption) ?_) | (with_reducible refine IfK_dec (fun _ => ?_) (fun _ => ?_)) | (with_reducible refine And.intro ?_ ?_) | simp (maxSteps := 10000000) (disch := ((try simp only [len_pushv, len_put, len_putB, List.length_take, List.length_drop, List.length_append, List.length_map, List.length_replicate, List.length_set, List.length_cons, List.length_nil, true_and, and_true]); first | done | omega | (repeat' (first | exact St.le.refl _ | assumption | refine le_pushv ?_ | refine le_put ?_ (by first | omega | (simp only [len_pushv, len_put]; omega)))))) only [W, Gives, pinsAfter, ↓reduceIte, Nat.reduceEqDiff, Nat.reduceAdd, Nat.reduceMul, Nat.reduceSub, ne_eq, Int.reduceEq, Int.reduceNeg, Int.reduceToNat, Int.reduceAdd, Int.reduceSub, Int.reduceMul, Int.reduceDiv, Int.reduceMod, Int.reduceLT, Int.reduceLE, Nat.reduceLeDiff, Nat.reduceBEq, Nat.reduceLT, code_push_Parser_say, hg', prow, hc]))
  refine ret_stay fun _ _ => ?_
  have hr' : Gr S S' xo x' := ⟨by have := hr.len; rw [len_pushv] at this; omega, fun i hi hn => by rw [hr.old i (by rw [len_pushv]; omega) hn, get_pushv_ne (by omega)], fun i hi => (hr.nam i hi).imp id fun h => by rw [len_pushv] at h; omega⟩
  have h2 := hs.setO (m' := { m with out := m.out ++ [{ e with at_ := m.at_ }] }) hr' ⟨oc, rfl, ho, he⟩ (e := { e with at_ := m.at_ }) hx' hd hu (fun i hi h => hn i hi ((POwn_iff hg).2 h)) rfl rfl rfl rfl rfl
  have hg2 : (S'.put p (0, .row (prow { m with out := m.out ++ [{ e with at_ := m.at_ }] } xb xt x' g l))).get p = (0, .row (prow { m with out := m.out ++ [{ e with at_ := m.at_ }] } xb xt x' g l)) := get_put_at hpp
  refine hQ _ ⟨xb, xt, x', g, l, hg2, h2.keep (by rw [len_put]; omega) (fun i hi hne => get_put_no hne) rfl rfl rfl rfl rfl⟩ ?_
  refine PFr.of hg hg2 (by rw [len_put]; exact hr'.len) (fun i hi hn => ?_) ?_
  · rw [get_put_no fun e => hn (.inl e), hr'.old i hi fun h => hn (.inr (.inr (.inr (.inl h))))]
  · rintro i (h | h | h | h | h)
    · exact .inl (.inl h)
    · exact .inl (.inr (.inl h))
    · exact .inl (.inr (.inr (.inl h)))
    · exact (hr'.nam i h).imp (fun h => .inr (.inr (.inr (.inl h)))) id
    · exact .inl (.inr (.inr (.inr (.inr h))))
end Go.Proofs.YtnfiihdebonadaaGreatDoor.Abs
namespace Go.Proofs.YtnfiihdebonadaaGreatDoor.Abs

theorem done_row {S S' : St} {p : Nat} {m m' : PSt} {xb xt xo g l : AV} (hg : S.get p = (0, .row (prow m xb xt xo g l))) (hs : PS S p m xb xt xo g l) (hg' : S'.get p = (0, .row (prow m' xb xt xo g l))) (hl : S.len ≤ S'.len) (hold : ∀ i, i < S.len → i ≠ p → S'.get i = S.get i)
    (e1 : m'.block = m.block) (e2 : m'.text = m.text) (e3 : m'.ahead.glob = m.ahead.glob) (e4 : m'.ahead.loc = m.ahead.loc) (e5 : m'.out = m.out) : PMem S' p m' ∧ PFr S S' p :=
  ⟨⟨_, _, _, _, _, hg', hs.keep hl hold e1 e2 e3 e4 e5⟩, PFr.of hg hg' hl (fun i hi hn => hold i hi fun e => hn (.inl e)) fun i h => .inl h⟩
theorem bytes_nil (S : St) : Bytes S (.list true 0 []) [] := ⟨rfl, by simp [rd]⟩
def Ev.mk0 (k : Nat) (er : Option (Nat × Int)) : Ev := ⟨k, .zero, [], er, 0⟩
def sayM (m : PSt) (e : Ev) : PSt := { m with out := m.out ++ [{ e with at_ := m.at_ }] }
def skipM (m : PSt) : PSt := if m.pad = 0 then { m with state := 0 } else { m with state := 3 }
def finishM (m : PSt) : PSt := skipM (sayM m (.mk0 3 none))
def errOf (e : Nat) (pl : Int) : Option (Nat × Int) := if e = 0 then none else some (e, pl)
def badM (m : PSt) (e : Nat) : PSt := sayM { m with state := 4, err := errOf e m.place } (.mk0 5 (errOf e m.place))

section
variable {W0 : World} {S : St} {p : Nat} {m : PSt} (hm : PMem S p m) (hl : m.out.length ≤ 1000000) {Q : AV → St → Prop}
include hm
theorem push_skip (hQ : ∀ S', PMem S' p (skipM m) → PFr S S' p → Q (.tup []) S') : CallsA Pr W0 Fn.push_Parser_skip [.ptr p 0 0] S Q := by
  obtain ⟨xb, xt, xo, g, l, hg, hs⟩ := hm
  have hp := hs.hp
  refine in_push_Parser_skip (by simp) ?_
  (repeat' (first | (with_reducible refine @Br_pos _ _ _ _ _ _ (by first | assumption | omega) ?_) | (with_reducible refine @Br_neg _ _ _ _ _ _ (by first | assumption | omega) ?_) | (with_reducible refine @Br_dec _ _ _ _ _ _ (fun _ => ?_) (fun _ => ?_)) | (with_reducible refine Br_bt (by assumption) ?_) | (with_reducible refine Br_bf (by assumption) ?_) | (with_reducible refine Br_b (fun _ => ?_) (fun _ => ?_)) | (with_reducible refine IfK_pos (by first | assumption | omega) ?_) | (with_reducible refine IfK_neg (by first | assumption | omega) ?_) | (with_reducible refine IfK_bf (by assumption) ?_) | (with_reducible refine IfK_dec (fun _ => ?_) (fun _ => ?_)) | (with_reducible refine And.intro ?_ ?_) | simp (maxSteps := 10000000) (disch := ((try simp only [len_pushv, len_put, len_putB, List.length_take, List.length_drop, List.length_append, List.length_map, List.length_replicate, List.length_set, List.length_cons, List.length_nil, true_and, and_true]); first | done | omega | (repeat' (first | exact St.le.refl _ | assumption | refine le_pushv ?_ | refine le_put ?_ (by first | omega | (simp only [len_pushv, len_put]; omega)))))) only [W, Gives, pinsAfter, ↓reduceIte, Nat.reduceEqDiff, Nat.reduceAdd, Nat.reduceMul, Nat.reduceSub, ne_eq, Int.reduceEq, Int.reduceNeg, Int.reduceToNat, Int.reduceAdd, Int.reduceSub, Int.reduceMul, Int.reduceDiv, Int.reduceMod, Int.reduceLT, Int.reduceLE, Nat.reduceLeDiff, Nat.reduceBEq, Nat.reduceLT, code_push_Parser_skip, hg, prow]))
  all_goals
    rename_i h
    refine ret_stay fun _ _ => ?_
  · have e : skipM m = { m with state := 0 } := if_pos h
    obtain ⟨h1, h2⟩ := done_row (m' := skipM m) hg hs (S' := S.put p (0, .row (prow (skipM m) xb xt xo g l))) (get_put_at hp) (by rw [len_put]; omega) (fun i _ h => get_put_no h) (by rw [e]) (by rw [e]) (by rw [e]) (by rw [e]) (by rw [e])
    rw [e] at h1 h2
    rw [e] at hQ
    exact hQ _ h1 h2
  · have e : skipM m = { m with state := 3 } := if_neg h
    obtain ⟨h1, h2⟩ := done_row (m' := skipM m) hg hs (S' := S.put p (0, .row (prow (skipM m) xb xt xo g l))) (get_put_at hp) (by rw [len_put]; omega) (fun i _ h => get_put_no h) (by rw [e]) (by rw [e]) (by rw [e]) (by rw [e]) (by rw [e])
    rw [e] at h1 h2
    rw [e] at hQ
    exact hQ _ h1 h2
include hl
theorem push_finish (hQ : ∀ S', PMem S' p (finishM m) → PFr S S' p → Q (.tup []) S') : CallsA Pr W0 Fn.push_Parser_finish [.ptr p 0 0] S Q := by
  refine in_push_Parser_finish (by simp) ?_
  (repeat' (first | (with_reducible refine @Br_pos _ _ _ _ _ _ (by first | assumption | omega) ?_) | (with_reducible refine @Br_neg _ _ _ _ _ _ (by first | assumption | omega) ?_) | (with_reducible refine @Br_dec _ _ _ _ _ _ (fun _ => ?_) (fun _ => ?_)) | (with_reducible refine Br_bt (by assumption) ?_) | (with_reducible refine Br_bf (by assumption) ?_) | (with_reducible refine Br_b (fun _ => ?_) (fun _ => ?_)) | (with_reducible refine IfK_pos (by first | assumption | omega) ?_) | (with_reducible refine IfK_neg (by first | assumption | omega) ?_) | (with_reducible refine IfK_bf (by assumption) ?_) | (with_reducible refine IfK_dec (fun _ => ?_) (fun _ => ?_)) | (with_reducible refine And.intro ?_ ?_) | simp (maxSteps := 10000000) (disch := ((try simp only [len_pushv, len_put, len_putB, List.length_take, List.length_drop, List.length_append, List.length_map, List.length_replicate, List.length_set, List.length_cons, List.length_nil, true_and, and_true]); first | done | omega | (repeat' (first | exact St.le.refl _ | assumption | refine le_pushv ?_ | refine le_put ?_ (by first | omega | (simp only [len_pushv, len_put]; omega)))))) only [W, Gives, pinsAfter, ↓reduceIte, Nat.reduceEqDiff, Nat.reduceAdd, Nat.reduceMul, Nat.reduceSub, ne_eq, Int.reduceEq, Int.reduceNeg, Int.reduceToNat, Int.reduceAdd, Int.reduceSub, Int.reduceMul, Int.reduceDiv, Int.reduceMod, Int.reduceLT, Int.reduceLE, Nat.reduceLeDiff, Nat.reduceBEq, Nat.reduceLT, code_push_Parser_finish]))
  refine push_say hm (e := .mk0 3 none) (d := .list true 0 []) (bytes_nil _) rfl (fun i h => h.elim) hl fun S1 h1 h2 => ?_
  (repeat' (first | (with_reducible refine @Br_pos _ _ _ _ _ _ (by first | assumption | omega) ?_) | (with_reducible refine @Br_neg _ _ _ _ _ _ (by first | assumption | omega) ?_) | (with_reducible refine @Br_dec _ _ _ _ _ _ (fun _ => ?_) (fun _ => ?_)) | (with_reducible refine Br_bt (by assumption) ?_) | (with_reducible refine Br_bf (by assumption) ?_) | (with_reducible refine Br_b (fun _ => ?_) (fun _ => ?_)) | (with_reducible refine IfK_pos (by first | assumption | omega) ?_) | (with_reducible refine IfK_neg (by first | assumption | omega) ?_) | (with_reducible refine IfK_bf (by assumption) ?_) | (with_reducible refine IfK_dec (fun _ => ?_) (fun _ => ?_)) | (with_reducible refine And.intro ?_ ?_) | simp (maxSteps := 10000000) (disch := ((try simp only [len_pushv, len_put, len_putB, List.length_take, List.length_drop, List.length_append, List.length_map, List.length_replicate, List.length_set, List.length_cons, List.length_nil, true_and, and_true]); first | done | omega | (repeat' (first | exact St.le.refl _ | assumption | refine le_pushv ?_ | refine le_put ?_ (by first | omega | (simp only [len_pushv, len_put]; omega)))))) only [W, Gives, pinsAfter, ↓reduceIte, Nat.reduceEqDiff, Nat.reduceAdd, Nat.reduceMul, Nat.reduceSub, ne_eq, Int.reduceEq, Int.reduceNeg, Int.reduceToNat, Int.reduceAdd, Int.reduceSub, Int.reduceMul, Int.reduceDiv, Int.reduceMod, Int.reduceLT, Int.reduceLE, Nat.reduceLeDiff, Nat.reduceBEq, Nat.reduceLT, code_push_Parser_finish]))
  refine push_skip h1 fun S2 h3 h4 => ?_
  (repeat' (first | (with_reducible refine @Br_pos _ _ _ _ _ _ (by first | assumption | omega) ?_) | (with_reducible refine @Br_neg _ _ _ _ _ _ (by first | assumption | omega) ?_) | (with_reducible refine @Br_dec _ _ _ _ _ _ (fun _ => ?_) (fun _ => ?_)) | (with_reducible refine Br_bt (by assumption) ?_) | (with_reducible refine Br_bf (by assumption) ?_) | (with_reducible refine Br_b (fun _ => ?_) (fun _ => ?_)) | (with_reducible refine IfK_pos (by first | assumption | omega) ?_) | (with_reducible refine IfK_neg (by first | assumption | omega) ?_) | (with_reducible refine IfK_bf (by assumption) ?_) | (with_reducible refine IfK_dec (fun _ => ?_) (fun _ => ?_)) | (with_reducible refine And.intro ?_ ?_) | simp (maxSteps := 10000000) (disch := ((try simp only [len_pushv, len_put, len_putB, List.length_take, List.length_drop, List.length_append, List.length_map, List.length_replicate, List.length_set, List.length_cons, List.length_nil, true_and, and_true]); first | done | omega | (repeat' (first | exact St.le.refl _ | assumption | refine le_pushv ?_ | refine le_put ?_ (by first | omega | (simp only [len_pushv, len_put]; omega)))))) only [W, Gives, pinsAfter, ↓reduceIte, Nat.reduceEqDiff, Nat.reduceAdd, Nat.reduceMul, Nat.reduceSub, ne_eq, Int.reduceEq, Int.reduceNeg, Int.reduceToNat, Int.reduceAdd, Int.reduceSub, Int.reduceMul, Int.reduceDiv, Int.reduceMod, Int.reduceLT, Int.reduceLE, Nat.reduceLeDiff, Nat.reduceBEq, Nat.reduceLT, code_push_Parser_finish]))
  exact ret_stay fun _ _ => hQ _ h3 (h2.trans h4)
theorem push_bad {e : Nat} (hQ : ∀ S', PMem S' p (badM m e) → PFr S S' p → Q (.tup []) S') : CallsA Pr W0 Fn.push_Parser_bad [.ptr p 0 0, .int .i64 e] S Q := by
  obtain ⟨xb, xt, xo, g, l, hg, hs⟩ := hm
  have hp := hs.hp
  have hc : (errAV (errOf e m.place)).cellsOf = some [errAV (errOf e m.place)] := by unfold errOf; split <;> rfl
  refine in_push_Parser_bad (by simp) ?_
  (repeat' (first | (with_reducible refine @Br_pos _ _ _ _ _ _ (by first | assumption | omega) ?_) | (with_reducible refine @Br_neg _ _ _ _ _ _ (by first | assumption | omega) ?_) | (with_reducible refine @Br_dec _ _ _ _ _ _ (fun _ => ?_) (fun _ => ?_)) | (with_reducible refine Br_bt (by assumption) ?_) | (with_reducible refine Br_bf (by assumption) ?_) | (with_reducible refine Br_b (fun _ => ?_) (fun _ => ?_)) | (with_reducible refine IfK_pos (by first | assumption | omega) ?_) | (with_reducible refine IfK_neg (by first | assumption | omega) ?_) | (with_reducible refine IfK_bf (by assumption) ?_) | (with_reducible refine IfK_dec (fun _ => ?_) (fun _ => ?_)) | (with_reducible refine And.intro ?_ ?_) | simp (maxSteps := 10000000) (disch := ((try simp only [len_pushv, len_put, len_putB, List.length_take, List.length_drop, List.length_append, List.length_map, List.length_replicate, List.length_set, List.length_cons, List.length_nil, true_and, and_true]); first | done | omega | (repeat' (first | exact St.le.refl _ | assumption | refine le_pushv ?_ | refine le_put ?_ (by first | omega | (simp only [len_pushv, len_put]; omega)))))) only [W, Gives, pinsAfter, ↓reduceIte, Nat.reduceEqDiff, Nat.reduceAdd, Nat.reduceMul, Nat.reduceSub, ne_eq, Int.reduceEq, Int.reduceNeg, Int.reduceToNat, Int.reduceAdd, Int.reduceSub, Int.reduceMul, Int.reduceDiv, Int.reduceMod, Int.reduceLT, Int.reduceLE, Nat.reduceLeDiff, Nat.reduceBEq, Nat.reduceLT, code_push_Parser_bad, hg, prow]))
  refine (fault_New (e := e) (pl := m.place)).go ?_
  have he : (if e = 0 then none else some (e, m.place)) = errOf e m.place := rfl
  rw [he]
  (repeat' (first | (with_reducible refine @Br_pos _ _ _ _ _ _ (by first | assumption | omega) ?_) | (with_reducible refine @Br_neg _ _ _ _ _ _ (by first | assumption | omega) ?_) | (with_reducible refine @Br_dec _ _ _ _ _ _ (fun _ => ?_) (fun _ => ?_)) | (with_reducible refine Br_bt (by assumption) ?_) | (with_reducible refine Br_bf (by assumption) ?_) | (with_reducible refine Br_b (fun _ => ?_) (fun _ => ?_)) | (with_reducible refine IfK_pos (by first | assumption | omega) ?_) | (with_reducible refine IfK_neg (by first | assumption | omega) ?_) | (with_reducible refine IfK_bf (by assumption) ?_) | (with_reducible refine IfK_dec (fun _ => ?_) (fun _ => ?_)) | (with_reducible refine And.intro ?_ ?_) | simp (maxSteps := 10000000) (disch := ((try simp only [len_pushv, len_put, len_putB, List.length_take, List.length_drop, List.length_append, List.length_map, List.length_replicate, List.length_set, List.length_cons, List.length_nil, true_and, and_true]); first | done | omega | (repeat' (first | exact St.le.refl _ | assumption | refine le_pushv ?_ | refine le_put ?_ (by first | omega | (simp only [len_pushv, len_put]; omega)))))) only [W, Gives, pinsAfter, ↓reduceIte, Nat.reduceEqDiff, Nat.reduceAdd, Nat.reduceMul, Nat.reduceSub, ne_eq, Int.reduceEq, Int.reduceNeg, Int.reduceToNat, Int.reduceAdd, Int.reduceSub, Int.reduceMul, Int.reduceDiv, Int.reduceMod, Int.reduceLT, Int.reduceLE, Nat.reduceLeDiff, Nat.reduceBEq, Nat.reduceLT, code_push_Parser_bad, hg, prow, hc]))
  obtain ⟨h1, h2⟩ := done_row (m' := { m with state := 4, err := errOf e m.place }) hg hs (S' := S.put p (0, .row (prow { m with state := 4, err := errOf e m.place } xb xt xo g l))) (get_put_at hp) (by rw [len_put]; omega) (fun i _ h => get_put_no h) rfl rfl rfl rfl rfl
  refine push_say h1 (e := .mk0 5 (errOf e m.place)) (d := .list true 0 []) (bytes_nil _) rfl (fun i h => h.elim) hl fun S1 h3 h4 => ?_
  (repeat' (first | (with_reducible refine @Br_pos _ _ _ _ _ _ (by first | assumption | omega) ?_) | (with_reducible refine @Br_neg _ _ _ _ _ _ (by first | assumption | omega) ?_) | (with_reducible refine @Br_dec _ _ _ _ _ _ (fun _ => ?_) (fun _ => ?_)) | (with_reducible refine Br_bt (by assumption) ?_) | (with_reducible refine Br_bf (by assumption) ?_) | (with_reducible refine Br_b (fun _ => ?_) (fun _ => ?_)) | (with_reducible refine IfK_pos (by first | assumption | omega) ?_) | (with_reducible refine IfK_neg (by first | assumption | omega) ?_) | (with_reducible refine IfK_bf (by assumption) ?_) | (with_reducible refine IfK_dec (fun _ => ?_) (fun _ => ?_)) | (with_reducible refine And.intro ?_ ?_) | simp (maxSteps := 10000000) (disch := ((try simp only [len_pushv, len_put, len_putB, List.length_take, List.length_drop, List.length_append, List.length_map, List.length_replicate, List.length_set, List.length_cons, List.length_nil, true_and, and_true]); first | done | omega | (repeat' (first | exact St.le.refl _ | assumption | refine le_pushv ?_ | refine le_put ?_ (by first | omega | (simp only [len_pushv, len_put]; omega)))))) only [W, Gives, pinsAfter, ↓reduceIte, Nat.reduceEqDiff, Nat.reduceAdd, Nat.reduceMul, Nat.reduceSub, ne_eq, Int.reduceEq, Int.reduceNeg, Int.reduceToNat, Int.reduceAdd, Int.reduceSub, Int.reduceMul, Int.reduceDiv, Int.reduceMod, Int.reduceLT, Int.reduceLE, Nat.reduceLeDiff, Nat.reduceBEq, Nat.reduceLT, code_push_Parser_bad]))
  exact ret_stay fun _ _ => hQ _ h3 (h2.trans h4)
end
end Go.Proofs.YtnfiihdebonadaaGreatDoor.Abs
