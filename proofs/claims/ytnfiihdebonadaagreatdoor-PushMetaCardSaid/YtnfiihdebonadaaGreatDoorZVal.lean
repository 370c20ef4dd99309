import Derived.Orders
import Derived.Below
import Derived.Laws.AppendOwn
import Derived.Laws.IdiomCopy
import Derived.Laws.Entries
set_option linter.unusedSimpArgs false
set_option linter.unusedVariables false
set_option linter.unusedSectionVars false
namespace Go.Proofs.YtnfiihdebonadaaGreatDoor.Abs

/-- Abstract values. -/
inductive AV where
  | undef
  | int (k : IntKind) (n : Int)
  | bool (b : Bool)
  | str (s : List UInt8)
  | val (v : Value)
  | ptr (id ver off : Nat)
  | ref (id ver k off len : Nat)
  | list (fl : Bool) (n : Nat) (cells : List AV)
  | eptr (cells : List AV) (off : Nat)
  | map (id ver : Nat)
  | iface (t : TypeId) (x : AV)
  | clo (fn : Fn) (first captured : List AV)
  | agg (cells : List AV)
  | tup (vs : List AV)
  deriving Inhabited

inductive Blk where
  | dead
  | row (cells : List AV)
  | map (ents : List (AV × AV))
  | siter (s : List UInt8) (pos : Nat)
  | miter (m : Nat) (seen : List Nat)
  deriving Inhabited

mutual
/-- Names a value only blocks below m? -/
def AV.under (m : Nat) : AV → Bool
  | .ptr id _ _ => decide (id < m)
  | .ref id _ _ _ _ => decide (id < m)
  | .map id _ => decide (id < m)
  | .list _ _ cs => underL m cs
  | .eptr cs _ => underL m cs
  | .iface _ x => x.under m
  | .clo _ a b => underL m a && underL m b
  | .agg cs => underL m cs
  | .tup cs => underL m cs
  | _ => true
def underL (m : Nat) : List AV → Bool
  | [] => true
  | x :: xs => x.under m && underL m xs
end

theorem underL_iff (m : Nat) (l : List AV) : underL m l = true ↔ ∀ x ∈ l, x.under m = true := by
  induction l with
  | nil => simp [underL]
  | cons x l ih => simp [underL, ih]
theorem underL_get {m : Nat} {l : List AV} (h : underL m l = true) {j : Nat} {x : AV} (hx : l[j]? = some x) : x.under m = true := (underL_iff m l).1 h x (List.mem_of_getElem? hx)
theorem underL_map {α : Type} (m : Nat) (f : α → AV) (l : List α) (h : ∀ a, (f a).under m = true) : underL m (l.map f) = true := by
  rw [underL_iff]; simp; exact fun a _ => h a
theorem underL_append (m : Nat) (a b : List AV) : underL m (a ++ b) = (underL m a && underL m b) := by
  induction a with
  | nil => simp [underL]
  | cons x a ih => simp [underL, ih, Bool.and_assoc]


mutual
theorem AV.under_mono {m m' : Nat} (h : m ≤ m') : ∀ x : AV, x.under m = true → x.under m' = true
  | .undef, _ => rfl
  | .int _ _, _ => rfl
  | .bool _, _ => rfl
  | .str _, _ => rfl
  | .val _, _ => rfl
  | .ptr id _ _, hx => by simp only [AV.under, decide_eq_true_eq] at hx ⊢; omega
  | .ref id _ _ _ _, hx => by simp only [AV.under, decide_eq_true_eq] at hx ⊢; omega
  | .map id _, hx => by simp only [AV.under, decide_eq_true_eq] at hx ⊢; omega
  | .list _ _ cs, hx => by simp only [AV.under] at hx ⊢; exact underL_mono h cs hx
  | .eptr cs _, hx => by simp only [AV.under] at hx ⊢; exact underL_mono h cs hx
  | .iface _ x, hx => by simp only [AV.under] at hx ⊢; exact AV.under_mono h x hx
  | .clo _ a b, hx => by
    simp only [AV.under, Bool.and_eq_true] at hx ⊢
    exact ⟨underL_mono h a hx.1, underL_mono h b hx.2⟩
  | .agg cs, hx => by simp only [AV.under] at hx ⊢; exact underL_mono h cs hx
  | .tup cs, hx => by simp only [AV.under] at hx ⊢; exact underL_mono h cs hx
theorem underL_mono {m m' : Nat} (h : m ≤ m') : ∀ l : List AV, underL m l = true → underL m' l = true
  | [], _ => rfl
  | x :: l, hx => by
    simp only [underL, Bool.and_eq_true] at hx ⊢
    exact ⟨AV.under_mono h x hx.1, underL_mono h l hx.2⟩
end

def Blk.under (m : Nat) : Blk → Bool
  | .row cells => underL m cells
  | .map ents => ents.all fun p => p.1.under m && p.2.under m
  | _ => true

theorem Blk.under_mono {m m' : Nat} (h : m ≤ m') (k : Blk) (hk : k.under m = true) : k.under m' = true := by
  cases k with
  | row cells => exact underL_mono h cells hk
  | map ents =>
    simp only [Blk.under, List.all_eq_true, Bool.and_eq_true] at hk ⊢
    exact fun p hp => ⟨AV.under_mono h p.1 (hk p hp).1, AV.under_mono h p.2 (hk p hp).2⟩
  | _ => rfl

/-- Abstract memory: a list of blocks, each with a version. -/
structure St where
  mem : List (Nat × Blk)

namespace St
def len (S : St) : Nat := S.mem.length
def get (S : St) (i : Nat) : Nat × Blk := S.mem.getD i (0, .dead)
def push (S : St) (b : Blk) : St := ⟨S.mem ++ [(0, b)]⟩
def put (S : St) (i : Nat) (b : Nat × Blk) : St := ⟨S.mem.set i b⟩
def trunc (S : St) (n : Nat) : St := ⟨S.mem.take n⟩

@[simp] theorem len_push (S : St) (b) : (S.push b).len = S.len + 1 := by simp [len, push]
@[simp] theorem len_put (S : St) (i b) : (S.put i b).len = S.len := by simp [len, put]
theorem len_trunc (S : St) (n) : (S.trunc n).len = min n S.len := by simp [len, trunc]
theorem get_push (S : St) (b) (i) : (S.push b).get i = if i = S.len then (0, b) else S.get i := by
  simp only [get, push, len, List.getD_eq_getElem?_getD]
  by_cases h : i = S.mem.length
  · subst h; simp
  · rw [if_neg h]
    rcases Nat.lt_or_gt_of_ne h with h | h
    · rw [List.getElem?_append_left h]
    · rw [List.getElem?_append_right (by omega), List.getElem?_eq_none (by simp; omega), List.getElem?_eq_none (by omega)]
theorem get_push_eq (S : St) (b) : (S.push b).get S.len = (0, b) := by simp [get_push]
theorem get_push_ne (S : St) (b) {i} (h : i ≠ S.len) : (S.push b).get i = S.get i := by simp [get_push, h]
theorem get_put (S : St) (i b j) : (S.put i b).get j = if j = i ∧ i < S.len then b else S.get j := by
  simp only [get, put, len, List.getD_eq_getElem?_getD, List.getElem?_set]
  by_cases h : i = j
  · subst h
    by_cases h2 : i < S.mem.length
    · simp [h2]
    · simp [h2]
  · simp [h, Ne.symm h]
theorem get_put_eq (S : St) (i b) (h : i < S.len) : (S.put i b).get i = b := by simp [get_put, h]
theorem get_put_ne (S : St) (i b) {j} (h : j ≠ i) : (S.put i b).get j = S.get j := by simp [get_put, h]
theorem get_trunc (S : St) (n i) : (S.trunc n).get i = if i < n then S.get i else (0, .dead) := by
  simp only [get, trunc, List.getD_eq_getElem?_getD, List.getElem?_take]
  split <;> simp
theorem get_ge (S : St) {i} (h : S.len ≤ i) : S.get i = (0, .dead) := by
  simp only [get, len, List.getD_eq_getElem?_getD] at *
  rw [List.getElem?_eq_none h]; rfl
theorem trunc_len (S : St) : S.trunc S.len = S := by cases S; simp [trunc, len]
theorem trunc_ge (S : St) {n} (h : S.len ≤ n) : S.trunc n = S := by cases S; simp only [trunc, len] at *; rw [List.take_of_length_le h]
theorem trunc_push (S : St) (b) {n} (h : n ≤ S.len) : (S.push b).trunc n = S.trunc n := by
  simp only [trunc, push, len] at *; rw [List.take_append_of_le_length h]
theorem trunc_put_ge (S : St) (i b) {n} (h : n ≤ i) : (S.put i b).trunc n = S.trunc n := by
  simp only [trunc, put] at *
  congr 1
  apply List.ext_getElem?
  intro j
  simp only [List.getElem?_take, List.getElem?_set]
  split
  · rw [if_neg (by omega)]
  · rfl
theorem trunc_put_lt (S : St) (i b) {n} (h : i < n) : (S.put i b).trunc n = (S.trunc n).put i b := by
  simp only [trunc, put]
  congr 1
  apply List.ext_getElem?
  intro j
  simp only [List.getElem?_take, List.getElem?_set, List.length_take]
  by_cases hj : j < n
  · simp only [hj, if_true]
    by_cases hij : i = j
    · subst hij
      simp only [if_true]
      by_cases h3 : i < S.mem.length
      · rw [if_pos h3, if_pos (by omega)]
      · rw [if_neg h3, if_neg (by omega)]
    · simp [hij]
  · simp only [hj, if_false]
    by_cases hij : i = j
    · omega
    · simp [hij]
end St

/-- Where a block lies: its number and where its cells begin in it. -/
abbrev Ghost := Nat → Option (Nat × Nat)

def priv (ρ : Ghost) (B : Nat) : Prop := ∃ id b, ρ id = some (B, b)

inductive VRel (ρ : Ghost) (S : St) (w : World) : AV → Value → Prop
  | undef (v : Value) : VRel ρ S w .undef v
  | int (k : IntKind) (n : Int) : VRel ρ S w (.int k n) (.int k n)
  | bool (b : Bool) : VRel ρ S w (.bool b) (.bool b)
  | str (s : List UInt8) : VRel ρ S w (.str s) (.string ⟨s.toArray⟩)
  | val (v : Value) : VRel ρ S w (.val v) v
  | ptr (id ver off : Nat) (v : Value) (h1 : v.oneCell' = true) (hid : id < S.len) (hver : ver ≤ (S.get id).1)
      (h : (S.get id).1 = ver → ∃ B b, ρ id = some (B, b) ∧ v = .pointer (some ⟨B, b + off, none⟩)) : VRel ρ S w (.ptr id ver off) v
  | ref (id ver k off len : Nat) (v : Value) (h1 : v.oneCell' = true) (hid : id < S.len) (hver : ver ≤ (S.get id).1)
      (h : (S.get id).1 = ver → ∃ addr cap, v = .slice addr len cap ∧ len ≤ cap ∧
        (cap = 0 ∨ ∃ (B b : Nat) (c : Array Value) (e : TypeId) (f : Nat × Nat), ρ id = some (B, b) ∧ addr = some ⟨B, b + off, none⟩ ∧ w.heap[B]? = some (.cells c e f) ∧ b + off + cap * k ≤ c.size)) :
      VRel ρ S w (.ref id ver k off len) v
  | list (fl : Bool) (n : Nat) (cells : List AV) (addr : Option Addr) (cap : Nat) (cs : Nat → Value) (hn : n ≤ cap) (hfl : fl = true → cap = n)
      (ha : cells = [] ∨ ∃ B o, addr = some ⟨B, o, none⟩ ∧ ¬ priv ρ B ∧ ∀ j, j < cells.length → w.cell? ⟨B, o + j, none⟩ = some (cs j))
      (h1 : ∀ j, j < cells.length → (cs j).oneCell' = true)
      (h : ∀ j x, cells[j]? = some x → VRel ρ S w x (cs j)) : VRel ρ S w (.list fl n cells) (.slice addr n cap)
  | eptr (cells : List AV) (off B o : Nat) (cs : Nat → Value) (hc : cells = [] ∨ ¬ priv ρ B ∧ ∀ j, j < cells.length → w.cell? ⟨B, o + j, none⟩ = some (cs j))
      (h1 : ∀ j, j < cells.length → (cs j).oneCell' = true)
      (h : ∀ j x, cells[j]? = some x → VRel ρ S w x (cs j)) : VRel ρ S w (.eptr cells off) (.pointer (some ⟨B, o + off, none⟩))
  | map (id ver : Nat) (v : Value) (h1 : v.oneCell' = true) (hid : id < S.len) (hver : ver ≤ (S.get id).1)
      (h : (S.get id).1 = ver → ∃ B, ρ id = some (B, 0) ∧ v = .map (some B)) : VRel ρ S w (.map id ver) v
  | iface (t : TypeId) (x : AV) (v : Value) (h : VRel ρ S w x v) : VRel ρ S w (.iface t x) (.iface t v)
  | clo (fn : Fn) (first captured : List AV) (f c : Array Value) (hf : first.length = f.size) (hc : captured.length = c.size)
      (h1 : ∀ j x, first[j]? = some x → VRel ρ S w x (f.getD j undef)) (h2 : ∀ j x, captured[j]? = some x → VRel ρ S w x (c.getD j undef)) :
      VRel ρ S w (.clo fn first captured) (.func fn f c)
  | agg (cells : List AV) (cs : Array Value) (hl : cells.length = cs.size) (h1 : ∀ j, j < cs.size → (cs.getD j undef).oneCell' = true) (h : ∀ j x, cells[j]? = some x → VRel ρ S w x (cs.getD j undef)) :
      VRel ρ S w (.agg cells) (.agg cs)
  | tup (cells : List AV) (cs : Array Value) (hl : cells.length = cs.size) (h : ∀ j x, cells[j]? = some x → VRel ρ S w x (cs.getD j undef)) :
      VRel ρ S w (.tup cells) (.tuple cs)

/-- What concrete memory holds for a block. -/
def BRel (ρ : Ghost) (S : St) (w : World) (B b : Nat) : Blk → Prop
  | .dead => True
  | .row cells => ∃ (c : Array Value) (e : TypeId) (f : Nat × Nat), w.heap[B]? = some (Obj.cells c e f) ∧ b + cells.length ≤ c.size ∧ f.2 ≤ f.1 ∧
      (∀ j, j < cells.length → (c.getD (b + j) undef).oneCell' = true) ∧
      ∀ j x, cells[j]? = some x → VRel ρ S w x (c.getD (b + j) undef)
  | .map ents => ∃ (es : Array MapEntry) (clock : Nat), b = 0 ∧ w.heap[B]? = some (.map es clock) ∧ ents.length = es.size ∧
      (∀ (j : Nat) (e : MapEntry), es[j]? = some e → e.born < clock) ∧ (∀ (i j : Nat) (e f : MapEntry), es[i]? = some e → es[j]? = some f → e.born = f.born → i = j) ∧
      ∀ (j : Nat) (p : AV × AV) (e : MapEntry), ents[j]? = some p → es[j]? = some e → VRel ρ S w p.1 e.key ∧ VRel ρ S w p.2 e.val
  | .siter s pos => b = 0 ∧ w.heap[B]? = some (.stringIter ⟨s.toArray⟩ pos)
  | .miter _ _ => True

structure SRel (W0 : World) (ρ : Ghost) (S : St) (w : World) : Prop where
  below : RowKit.Below W0.heap.size W0 w
  new : ∀ i B b, ρ i = some (B, b) → W0.heap.size ≤ B
  dom : ∀ i p, ρ i = some p → i < S.len
  lt : ∀ i B b, ρ i = some (B, b) → B < w.heap.size
  inj : ∀ i j B b c, ρ i = some (B, b) → ρ j = some (B, c) → i = j
  blk : ∀ i B b, ρ i = some (B, b) → BRel ρ S w B b (S.get i).2
  wf : ∀ i, (S.get i).2.under S.len = true

structure Ext (ρ : Ghost) (S : St) (w : World) (ρ' : Ghost) (S' : St) (w' : World) : Prop where
  hsize : w.heap.size ≤ w'.heap.size
  cells : ∀ (B : Nat) (c : Array Value) (e : TypeId) (f : Nat × Nat), w.heap[B]? = some (Obj.cells c e f) → ∃ (c' : Array Value) (f' : Nat × Nat), w'.heap[B]? = some (Obj.cells c' e f') ∧ c'.size = c.size
  old : ∀ B, B < w.heap.size → ¬ priv ρ B → w'.heap[B]? = w.heap[B]?
  pr : ∀ B, B < w.heap.size → priv ρ' B → priv ρ B
  len : S.len ≤ S'.len
  ver : ∀ i, (S.get i).1 ≤ (S'.get i).1
  rho : ∀ i p, ρ i = some p → (S'.get i).1 = (S.get i).1 → ρ' i = some p

theorem Ext.refl (ρ : Ghost) (S : St) (w : World) : Ext ρ S w ρ S w :=
  ⟨Nat.le_refl _, fun _ c _ f h => ⟨c, f, h, rfl⟩, fun _ _ _ => rfl, fun _ _ h => h, Nat.le_refl _, fun _ => Nat.le_refl _, fun _ _ h _ => h⟩

theorem Ext.trans {ρ ρ₁ ρ₂ : Ghost} {S S₁ S₂ : St} {w w₁ w₂ : World} (h : Ext ρ S w ρ₁ S₁ w₁) (k : Ext ρ₁ S₁ w₁ ρ₂ S₂ w₂) : Ext ρ S w ρ₂ S₂ w₂ := by
  refine ⟨Nat.le_trans h.hsize k.hsize, fun B c e f hc => ?_, fun B hB hp => ?_, fun B hB hp => ?_, Nat.le_trans h.len k.len, fun i => Nat.le_trans (h.ver i) (k.ver i), fun i p hp hv => ?_⟩
  · obtain ⟨c₁, f₁, h₁, s₁⟩ := h.cells B c e f hc
    obtain ⟨c₂, f₂, h₂, s₂⟩ := k.cells B c₁ e f₁ h₁
    exact ⟨c₂, f₂, h₂, s₂.trans s₁⟩
  · have hp₁ : ¬ priv ρ₁ B := fun hq => hp (h.pr B hB hq)
    exact (k.old B (Nat.lt_of_lt_of_le hB h.hsize) hp₁).trans (h.old B hB hp)
  · exact h.pr B hB (k.pr B (Nat.lt_of_lt_of_le hB h.hsize) hp)
  · have h1 := h.ver i
    have h2 := k.ver i
    have hv1 : (S₁.get i).1 = (S.get i).1 := by omega
    exact k.rho i p (h.rho i p hp hv1) (by omega)

theorem cell_lt {w : World} {B o : Nat} {v : Value} (h : w.cell? ⟨B, o, none⟩ = some v) : B < w.heap.size := World.block_lt_of_cell? w ⟨B, o, none⟩ h

theorem Ext.cell {ρ ρ' : Ghost} {S S' : St} {w w' : World} (h : Ext ρ S w ρ' S' w') {B o : Nat} {v : Value} (hp : ¬ priv ρ B)
    (hc : w.cell? ⟨B, o, none⟩ = some v) : w'.cell? ⟨B, o, none⟩ = some v := by
  rw [World.cell?_of_block (w := w) (h.old B (cell_lt hc) hp)]; exact hc

theorem VRel.ext {ρ ρ' : Ghost} {S S' : St} {w w' : World} {x : AV} {v : Value} (he : Ext ρ S w ρ' S' w') (h : VRel ρ S w x v) : VRel ρ' S' w' x v := by
  induction h with
  | undef v => exact .undef v
  | int k n => exact .int k n
  | bool b => exact .bool b
  | str s => exact .str s
  | val v => exact .val v
  | ptr id ver off v h1 hid hver h =>
    refine .ptr id ver off v h1 (Nat.lt_of_lt_of_le hid he.len) (Nat.le_trans hver (he.ver id)) fun hv => ?_
    have h1 := he.ver id
    obtain ⟨B, b, hr, hv'⟩ := h (by omega)
    exact ⟨B, b, he.rho id _ hr (by omega), hv'⟩
  | ref id ver k off len v h1 hid hver h =>
    refine .ref id ver k off len v h1 (Nat.lt_of_lt_of_le hid he.len) (Nat.le_trans hver (he.ver id)) fun hv => ?_
    have h1 := he.ver id
    obtain ⟨addr, cap, hv', hl, hc⟩ := h (by omega)
    refine ⟨addr, cap, hv', hl, hc.imp (fun h => h) ?_⟩
    rintro ⟨B, b, c, e, f, hr, ha, hh, hs⟩
    obtain ⟨c', f', hh', hs'⟩ := he.cells B c e f hh
    exact ⟨B, b, c', e, f', he.rho id _ hr (by omega), ha, hh', by omega⟩
  | list fl n cells addr cap cs hn hfl ha h1 h ih =>
    refine .list fl n cells addr cap cs hn hfl ?_ h1 ih
    rcases ha with ha | ⟨B, o, ha, hp, hc⟩
    · exact .inl ha
    · by_cases hcl : cells = []
      · exact .inl hcl
      · have h0 : 0 < cells.length := List.length_pos_iff.2 hcl
        exact .inr ⟨B, o, ha, fun hq => hp (he.pr B (cell_lt (hc 0 h0)) hq), fun j hj => he.cell hp (hc j hj)⟩
  | eptr cells off B o cs hc h1 h ih =>
    refine .eptr cells off B o cs ?_ h1 ih
    rcases hc with hc | ⟨hp, hc⟩
    · exact .inl hc
    · by_cases hcl : cells = []
      · exact .inl hcl
      · have h0 : 0 < cells.length := List.length_pos_iff.2 hcl
        exact .inr ⟨fun hq => hp (he.pr B (cell_lt (hc 0 h0)) hq), fun j hj => he.cell hp (hc j hj)⟩
  | map id ver v h1 hid hver h =>
    refine .map id ver v h1 (Nat.lt_of_lt_of_le hid he.len) (Nat.le_trans hver (he.ver id)) fun hv => ?_
    have h1 := he.ver id
    obtain ⟨B, hr, hv'⟩ := h (by omega)
    exact ⟨B, he.rho id _ hr (by omega), hv'⟩
  | iface t x v _ ih => exact .iface t x v ih
  | clo fn first captured f c hf hc _ _ ih1 ih2 => exact .clo fn first captured f c hf hc ih1 ih2
  | agg cells cs hl h1 _ ih => exact .agg cells cs hl h1 ih
  | tup cells cs hl _ ih => exact .tup cells cs hl ih

theorem BRel.ext {ρ ρ' : Ghost} {S S' : St} {w w' : World} {B b : Nat} {k : Blk} (he : Ext ρ S w ρ' S' w') (hb : w'.heap[B]? = w.heap[B]?) (h : BRel ρ S w B b k) : BRel ρ' S' w' B b k := by
  cases k with
  | dead => trivial
  | row cells =>
    obtain ⟨c, e, f, h1, h2, h3, h5, h4⟩ := h
    exact ⟨c, e, f, hb.trans h1, h2, h3, h5, fun j x hx => (h4 j x hx).ext he⟩
  | map ents =>
    obtain ⟨es, cl, h0, h1, h2, h3, h4, h5⟩ := h
    exact ⟨es, cl, h0, hb.trans h1, h2, h3, h4, fun j p e hp he' => ⟨(h5 j p e hp he').1.ext he, (h5 j p e hp he').2.ext he⟩⟩
  | siter s pos => exact ⟨h.1, hb.trans h.2⟩
  | miter m s => trivial

theorem VRel.under {ρ : Ghost} {S : St} {w : World} {x : AV} {v : Value} (h : VRel ρ S w x v) : x.under S.len = true := by
  induction h with
  | ptr id ver off v h1 hid hver h => simpa [AV.under] using hid
  | ref id ver k off len v h1 hid hver h => simpa [AV.under] using hid
  | map id ver v h1 hid hver h => simpa [AV.under] using hid
  | list fl n cells addr cap cs hn hfl ha h1 h ih =>
    simp only [AV.under, underL_iff]
    intro x hx
    obtain ⟨j, hj, rfl⟩ := List.getElem_of_mem hx
    exact ih j _ (List.getElem?_eq_getElem hj)
  | eptr cells off B o cs hc h1 h ih =>
    simp only [AV.under, underL_iff]
    intro x hx
    obtain ⟨j, hj, rfl⟩ := List.getElem_of_mem hx
    exact ih j _ (List.getElem?_eq_getElem hj)
  | iface t x v h ih => simpa [AV.under] using ih
  | clo fn first captured f c hf hc h1 h2 ih1 ih2 =>
    simp only [AV.under, Bool.and_eq_true, underL_iff]
    refine ⟨fun x hx => ?_, fun x hx => ?_⟩
    · obtain ⟨j, hj, rfl⟩ := List.getElem_of_mem hx
      exact ih1 j _ (List.getElem?_eq_getElem hj)
    · obtain ⟨j, hj, rfl⟩ := List.getElem_of_mem hx
      exact ih2 j _ (List.getElem?_eq_getElem hj)
  | agg cells cs hl h1 h ih =>
    simp only [AV.under, underL_iff]
    intro x hx
    obtain ⟨j, hj, rfl⟩ := List.getElem_of_mem hx
    exact ih j _ (List.getElem?_eq_getElem hj)
  | tup cells cs hl h ih =>
    simp only [AV.under, underL_iff]
    intro x hx
    obtain ⟨j, hj, rfl⟩ := List.getElem_of_mem hx
    exact ih j _ (List.getElem?_eq_getElem hj)
  | _ => rfl

theorem BRel.under {ρ : Ghost} {S : St} {w : World} {B b : Nat} {k : Blk} (h : BRel ρ S w B b k) : k.under S.len = true := by
  cases k with
  | row cells =>
    obtain ⟨c, e, f, _, _, _, _, h5⟩ := h
    simp only [Blk.under, underL_iff]
    intro x hx
    obtain ⟨j, hj, rfl⟩ := List.getElem_of_mem hx
    exact (h5 j _ (List.getElem?_eq_getElem hj)).under
  | map ents =>
    obtain ⟨es, cl, _, _, hl, _, _, h5⟩ := h
    simp only [Blk.under, List.all_eq_true, Bool.and_eq_true]
    intro p hp
    obtain ⟨j, hj, rfl⟩ := List.getElem_of_mem hp
    have hj' : j < es.size := by omega
    have := h5 j _ _ (List.getElem?_eq_getElem hj) (Array.getElem?_eq_getElem hj')
    exact ⟨this.1.under, this.2.under⟩
  | _ => rfl

/-- The cells of a value. -/
def AV.cellsOf : AV → Option (List AV)
  | .agg cs => some cs
  | .undef => none
  | .tup _ => none
  | .val v => if v.oneCell' = true then some [.val v] else none
  | x => some [x]

theorem cells_one {v : Value} (h : v.oneCell' = true) : v.cells = #[v] := by cases v <;> first | rfl | (simp [Value.oneCell'] at h)

theorem VRel.cells {ρ : Ghost} {S : St} {w : World} {x : AV} {v : Value} {cs : List AV} (h : VRel ρ S w x v) (hx : x.cellsOf = some cs) :
    v.cells.size = cs.length ∧ (∀ j, j < cs.length → (v.cells.getD j Go.undef).oneCell' = true) ∧ ∀ j y, cs[j]? = some y → VRel ρ S w y (v.cells.getD j Go.undef) := by
  have one : ∀ (x : AV) (v : Value), VRel ρ S w x v → v.oneCell' = true → some [x] = some cs →
      v.cells.size = cs.length ∧ (∀ j, j < cs.length → (v.cells.getD j Go.undef).oneCell' = true) ∧ ∀ j y, cs[j]? = some y → VRel ρ S w y (v.cells.getD j Go.undef) := by
    intro x v h h1 hx
    cases hx
    rw [cells_one h1]
    refine ⟨rfl, fun j hj => ?_, fun j y hy => ?_⟩
    · have : j = 0 := by simpa using hj
      subst this; exact h1
    · cases j with
      | zero => cases hy; exact h
      | succ j => simp at hy
  cases h with
  | undef v => cases hx
  | int k n => exact one _ _ (.int k n) rfl hx
  | bool b => exact one _ _ (.bool b) rfl hx
  | str s => exact one _ _ (.str s) rfl hx
  | val v =>
    simp only [AV.cellsOf] at hx
    split at hx
    · rename_i h1; exact one _ _ (.val v) h1 hx
    · cases hx
  | ptr id ver off v h1 hid hver h => exact one _ _ (.ptr id ver off v h1 hid hver h) h1 hx
  | ref id ver k off len v h1 hid hver h => exact one _ _ (.ref id ver k off len v h1 hid hver h) h1 hx
  | list fl n cells addr cap cs hn hfl ha h1 h => exact one _ _ (.list fl n cells addr cap cs hn hfl ha h1 h) rfl hx
  | eptr cells off B o cs hc h1 h => exact one _ _ (.eptr cells off B o cs hc h1 h) rfl hx
  | map id ver v h1 hid hver h => exact one _ _ (.map id ver v h1 hid hver h) h1 hx
  | iface t x v h => exact one _ _ (.iface t x v h) rfl hx
  | clo fn first captured f c hf hc h1 h2 => exact one _ _ (.clo fn first captured f c hf hc h1 h2) rfl hx
  | agg cells cs hl h1 h => cases hx; exact ⟨hl.symm, fun j hj => h1 j (by omega), h⟩
  | tup cells cs hl h => cases hx

end Go.Proofs.YtnfiihdebonadaaGreatDoor.Abs
namespace Go.Proofs.YtnfiihdebonadaaGreatDoor.Abs

def Ghost.set (ρ : Ghost) (id : Nat) (p : Nat × Nat) : Ghost := fun i => if i = id then some p else ρ i
theorem Ghost.set_eq (ρ : Ghost) (id p) : ρ.set id p id = some p := by simp [Ghost.set]
theorem Ghost.set_ne (ρ : Ghost) {id i : Nat} (p) (h : i ≠ id) : ρ.set id p i = ρ i := by simp [Ghost.set, h]

/-- A world of the same memory. -/
structure SameHeap (w w' : World) : Prop where
  os : w'.os = w.os
  tape : w'.tape = w.tape
  output : w'.output = w.output
  heap : w'.heap = w.heap

theorem SameHeap.drew (w : World) : SameHeap w w.drew := ⟨rfl, rfl, rfl, rfl⟩

theorem SameHeap.ext {w w' : World} (h : SameHeap w w') (ρ : Ghost) (S : St) : Ext ρ S w ρ S w' := by
  have e := h.heap
  exact ⟨by rw [e]; exact Nat.le_refl _, fun _ c _ f hc => ⟨c, f, by rw [e]; exact hc, rfl⟩, fun _ _ _ => by rw [e], fun _ _ h => h, Nat.le_refl _, fun _ => Nat.le_refl _, fun _ _ h _ => h⟩

theorem SRel.same {W0 : World} {ρ : Ghost} {S : St} {w w' : World} (h : SRel W0 ρ S w) (hs : SameHeap w w') : SRel W0 ρ S w' := by
  refine ⟨⟨hs.os.trans h.below.os, hs.tape.trans h.below.tape, hs.output.trans h.below.output, by rw [hs.heap]; exact h.below.size, fun k hk => by rw [hs.heap]; exact h.below.block k hk⟩,
    h.new, h.dom, fun i B b hr => by rw [hs.heap]; exact h.lt i B b hr, h.inj, fun i B b hr => (h.blk i B b hr).ext (hs.ext ρ S) (by rw [hs.heap]), h.wf⟩

/-- One block is made, or written, or laid elsewhere. -/
theorem SRel.step {W0 : World} {ρ : Ghost} {S S' : St} {w w' : World} (h : SRel W0 ρ S w) (id ver B b : Nat) (k : Blk)
    (hlen : S.len ≤ S'.len) (hid : id < S'.len) (hne : ∀ i, i ≠ id → S'.get i = S.get i) (heq : S'.get id = (ver, k)) (hver : (S.get id).1 ≤ ver)
    (hsame : ver = (S.get id).1 → ∀ p, ρ id = some p → p = (B, b))
    (hos : w'.os = w.os) (htape : w'.tape = w.tape) (hout : w'.output = w.output) (hsize : w.heap.size ≤ w'.heap.size)
    (hheap : ∀ j, j < w.heap.size → (∀ c, ρ id ≠ some (j, c)) → w'.heap[j]? = w.heap[j]?)
    (hcells : ∀ (j : Nat) (c : Array Value) (e : TypeId) (f : Nat × Nat), w.heap[j]? = some (Obj.cells c e f) → ∃ (c' : Array Value) (f' : Nat × Nat), w'.heap[j]? = some (Obj.cells c' e f') ∧ c'.size = c.size)
    (hB : (∃ c, ρ id = some (B, c)) ∨ w.heap.size ≤ B) (hlt : B < w'.heap.size)
    (hblk : Ext ρ S w (ρ.set id (B, b)) S' w' → BRel (ρ.set id (B, b)) S' w' B b k) :
    SRel W0 (ρ.set id (B, b)) S' w' ∧ Ext ρ S w (ρ.set id (B, b)) S' w' := by
  have hW := h.below.size
  have he : Ext ρ S w (ρ.set id (B, b)) S' w' := by
    refine ⟨hsize, hcells, fun j hj hp => hheap j hj fun c hc => hp ⟨id, c, hc⟩, fun j hj hp => ?_, hlen, fun i => ?_, fun i p hp hv => ?_⟩
    · obtain ⟨i, c, hc⟩ := hp
      by_cases hi : i = id
      · subst hi
        rw [Ghost.set_eq] at hc
        cases hc
        rcases hB with ⟨c, hc⟩ | hB
        · exact ⟨i, c, hc⟩
        · omega
      · rw [Ghost.set_ne _ _ hi] at hc
        exact ⟨i, c, hc⟩
    · by_cases hi : i = id
      · subst hi; rw [heq]; exact hver
      · rw [hne i hi]; exact Nat.le_refl _
    · by_cases hi : i = id
      · subst hi
        rw [heq] at hv
        rw [Ghost.set_eq, hsame hv p hp]
      · rw [Ghost.set_ne _ _ hi]; exact hp
  refine ⟨⟨⟨hos.trans h.below.os, htape.trans h.below.tape, hout.trans h.below.output, Nat.le_trans hW hsize, fun j hj => ?_⟩, fun i C c hc => ?_, fun i p hp => ?_, fun i C c hc => ?_, fun i j C c d hc hd => ?_, fun i C c hc => ?_, fun i => ?_⟩, he⟩
  · rw [hheap j (by omega) fun c hc => by have := h.new id j c hc; omega]
    exact h.below.block j hj
  · by_cases hi : i = id
    · subst hi; rw [Ghost.set_eq] at hc; cases hc
      rcases hB with ⟨c, hc⟩ | hB
      · exact h.new _ _ _ hc
      · omega
    · rw [Ghost.set_ne _ _ hi] at hc; exact h.new _ _ _ hc
  · by_cases hi : i = id
    · subst hi; exact hid
    · rw [Ghost.set_ne _ _ hi] at hp; exact Nat.lt_of_lt_of_le (h.dom _ _ hp) hlen
  · by_cases hi : i = id
    · subst hi; rw [Ghost.set_eq] at hc; cases hc; exact hlt
    · rw [Ghost.set_ne _ _ hi] at hc; exact Nat.lt_of_lt_of_le (h.lt _ _ _ hc) hsize
  · by_cases hi : i = id
    · by_cases hj : j = id
      · rw [hi, hj]
      · subst hi; rw [Ghost.set_eq] at hc; cases hc; rw [Ghost.set_ne _ _ hj] at hd
        rcases hB with ⟨c, hc⟩ | hB
        · exact h.inj _ _ _ _ _ hc hd
        · have := h.lt _ _ _ hd; omega
    · by_cases hj : j = id
      · subst hj; rw [Ghost.set_eq] at hd; cases hd; rw [Ghost.set_ne _ _ hi] at hc
        rcases hB with ⟨c, hc'⟩ | hB
        · exact h.inj _ _ _ _ _ hc hc'
        · have := h.lt _ _ _ hc; omega
      · rw [Ghost.set_ne _ _ hi] at hc; rw [Ghost.set_ne _ _ hj] at hd; exact h.inj _ _ _ _ _ hc hd
  · by_cases hi : i = id
    · subst hi; rw [Ghost.set_eq] at hc; cases hc; rw [heq]; exact hblk he
    · rw [Ghost.set_ne _ _ hi] at hc
      rw [hne i hi]
      refine (h.blk i C c hc).ext he (hheap C (h.lt _ _ _ hc) fun d hd => ?_)
      exact hi (h.inj _ _ _ _ _ hc hd)
  · by_cases hi : i = id
    · subst hi; rw [heq]; exact (hblk he).under
    · rw [hne i hi]; exact Blk.under_mono hlen _ (h.wf i)

/-- The same, where the place stays. -/
theorem Ghost.set_self {ρ : Ghost} {id : Nat} {p : Nat × Nat} (h : ρ id = some p) : ρ.set id p = ρ := by
  funext i; by_cases hi : i = id
  · subst hi; rw [Ghost.set_eq, h]
  · rw [Ghost.set_ne _ _ hi]

theorem frozen_false {w : World} {B o : Nat} {c : Array Value} {e : TypeId} {f : Nat × Nat} (h : w.heap[B]? = some (Obj.cells c e f)) (hf : f.2 ≤ f.1) :
    w.frozen? ⟨B, o, none⟩ = false := by
  obtain ⟨lo, hi⟩ := f
  simp only [World.frozen?, h]
  simp at hf ⊢
  omega

theorem cell_eq {w : World} {B o : Nat} {c : Array Value} {e : TypeId} {f : Nat × Nat} (h : w.heap[B]? = some (Obj.cells c e f)) (ho : o < c.size) :
    w.cell? ⟨B, o, none⟩ = some (c.getD o undef) := by
  simp [World.cell?, h, ho]

theorem addr_add (B o n : Nat) : (⟨B, o, none⟩ : Addr).add n = ⟨B, o + n, none⟩ := by
  unfold Addr.add; split
  · simp [*]
  · rfl

/-- A new block of cells. -/
theorem SRel.alloc {W0 : World} {ρ : Ghost} {S : St} {w : World} (h : SRel W0 ρ S w) (c : Array Value) (e : TypeId) (f : Nat × Nat) (hf : f.2 ≤ f.1) (cells : List AV) (hl : cells.length ≤ c.size)
    (h1 : ∀ j, j < cells.length → (c.getD j undef).oneCell' = true) (hc : ∀ j x, cells[j]? = some x → VRel ρ S w x (c.getD j undef)) :
    SRel W0 (ρ.set S.len (w.heap.size, 0)) (S.push (.row cells)) (w.alloc (.cells c e f)) ∧ Ext ρ S w (ρ.set S.len (w.heap.size, 0)) (S.push (.row cells)) (w.alloc (.cells c e f)) := by
  have hn : ρ S.len = none := by
    cases hr : ρ S.len with
    | none => rfl
    | some p => have := h.dom _ _ hr; omega
  refine h.step S.len 0 w.heap.size 0 (.row cells) (by simp) (by simp) (fun i hi => St.get_push_ne S _ hi) (St.get_push_eq S _) (by rw [St.get_ge S (Nat.le_refl _)]; exact Nat.le_refl _) (by intro _ p hp; rw [hn] at hp; cases hp) rfl rfl rfl (by simp) (fun j hj _ => RowKit.Below.heap_alloc w _ j hj) (fun j c' e' f' hj => ⟨c', f', ?_, rfl⟩) (.inr (Nat.le_refl _)) (by simp) fun he => ⟨c, e, f, ?_, by simpa using hl, hf, fun j hj => by rw [Nat.zero_add]; exact h1 j hj, fun j x hx => ?_⟩
  · rw [RowKit.Below.heap_alloc w _ j (by
      rcases Nat.lt_or_ge j w.heap.size with h' | h'
      · exact h'
      · rw [Array.getElem?_eq_none h'] at hj; cases hj)]
    exact hj
  · exact heap_alloc_new w _
  · rw [Nat.zero_add]; exact (hc j x hx).ext he

theorem VRel.newptr {ρ : Ghost} {S : St} (k : Blk) (B : Nat) (w' : World) : VRel (ρ.set S.len (B, 0)) (S.push k) w' (.ptr S.len 0 0) (.pointer (some ⟨B, 0, none⟩)) :=
  .ptr _ _ _ _ rfl (by simp) (Nat.zero_le _) fun _ => ⟨B, 0, Ghost.set_eq _ _ _, rfl⟩

end Go.Proofs.YtnfiihdebonadaaGreatDoor.Abs
namespace Go.Proofs.YtnfiihdebonadaaGreatDoor.Abs

/-- Cells laid over cells. -/
def putC (cells : List AV) (o : Nat) (xs : List AV) : List AV :=
  match xs with
  | [x] => cells.set o x
  | _ => cells.take o ++ xs ++ cells.drop (o + xs.length)

theorem putC_eq (cells : List AV) (o : Nat) (xs : List AV) (h : o + xs.length ≤ cells.length) : putC cells o xs = cells.take o ++ xs ++ cells.drop (o + xs.length) := by
  unfold putC
  split
  · rename_i x
    rw [List.set_eq_take_append_cons_drop, if_pos (by simp at h; omega)]
    simp
  · rfl

theorem putC_length (cells : List AV) (o : Nat) (xs : List AV) (h : o + xs.length ≤ cells.length) : (putC cells o xs).length = cells.length := by
  rw [putC_eq _ _ _ h]; simp; omega

theorem putC_get (cells : List AV) (o : Nat) (xs : List AV) (h : o + xs.length ≤ cells.length) (j : Nat) :
    (putC cells o xs)[j]? = if o ≤ j ∧ j < o + xs.length then xs[j - o]? else cells[j]? := by
  rw [putC_eq _ _ _ h, List.append_assoc]
  by_cases h1 : j < o
  · rw [List.getElem?_append_left (by simp; omega), List.getElem?_take, if_pos h1, if_neg (by omega)]
  · rw [List.getElem?_append_right (by simp; omega)]
    have e : (cells.take o).length = o := by simp; omega
    rw [e]
    by_cases h2 : j < o + xs.length
    · rw [List.getElem?_append_left (by omega), if_pos ⟨by omega, h2⟩]
    · rw [List.getElem?_append_right (by omega), if_neg (by omega), List.getElem?_drop]
      congr 1; omega

theorem setCells_heap (B : Nat) (e : TypeId) (f : Nat × Nat) : ∀ (vs : List Value) (o : Nat) (w : World) (c : Array Value), w.heap[B]? = some (Obj.cells c e f) →
    (w.setCells B o vs).os = w.os ∧ (w.setCells B o vs).tape = w.tape ∧ (w.setCells B o vs).output = w.output ∧ (w.setCells B o vs).heap.size = w.heap.size ∧
    (∀ k, k ≠ B → (w.setCells B o vs).heap[k]? = w.heap[k]?) ∧
    ∃ c', (w.setCells B o vs).heap[B]? = some (Obj.cells c' e f) ∧ c'.size = c.size ∧
      (∀ j, j < vs.length → o + j < c.size → c'.getD (o + j) undef = vs.getD j undef) ∧
      (∀ j, (j < o ∨ o + vs.length ≤ j) → c'.getD j undef = c.getD j undef)
  | [], o, w, c, h => ⟨rfl, rfl, rfl, rfl, fun _ _ => rfl, c, h, rfl, fun j hj => by simp at hj, fun _ _ => rfl⟩
  | v :: vs, o, w, c, h => by
    have h1 : (w.setCell ⟨B, o, none⟩ v).heap[B]? = some (Obj.cells (c.setIfInBounds o v) e f) := by
      simp only [World.setCell, Array.getElem?_modify, if_true, h, Option.map_some]; rfl
    obtain ⟨a1, a2, a3, a4, a5, c', a6, a7, a8, a9⟩ := setCells_heap B e f vs (o + 1) _ _ h1
    simp only [World.setCells]
    refine ⟨a1, a2, a3, a4.trans (by simp), fun k hk => (a5 k hk).trans (RowKit.Below.heap_setCell _ _ _ _ hk), c', a6, by simpa using a7, fun j hj hoj => ?_, fun j hj => ?_⟩
    · cases j with
      | zero =>
        rw [Nat.add_zero] at hoj ⊢
        rw [a9 o (.inl (by omega))]
        simp [hoj]
      | succ j =>
        rw [show o + (j + 1) = o + 1 + j from by omega, a8 j (by simpa using hj) (by simp; omega)]
        simp [List.getD]
    · simp only [List.length_cons] at hj
      rw [a9 j (by omega)]
      have hne : o ≠ j := by omega
      simp [hne]

/-- Cells of a block of ours are written. -/
theorem SRel.write {P : Program} {W0 : World} {ρ : Ghost} {S : St} {w : World} (h : SRel W0 ρ S w) {id B b : Nat} {cells : List AV} (hr : ρ id = some (B, b)) (hk : (S.get id).2 = .row cells)
    (o : Nat) (xs : List AV) (vs : List Value) (hl : vs.length = xs.length) (ho : o + xs.length ≤ cells.length) (h1 : ∀ v ∈ vs, v.oneCell' = true)
    (hv : ∀ j x, xs[j]? = some x → VRel ρ S w x (vs.getD j undef)) :
    ∃ w', (storeCells ⟨B, b + o, none⟩ vs).run P w = .ok () w' ∧ SRel W0 ρ (S.put id ((S.get id).1, .row (putC cells o xs))) w' ∧
      Ext ρ S w ρ (S.put id ((S.get id).1, .row (putC cells o xs))) w' := by
  have hb := h.blk id B b hr
  rw [hk] at hb
  obtain ⟨c, e, f, g1, g2, g3, g4, g5⟩ := hb
  have hst := run_storeCells_cells (P := P) B (b + o) vs 0 w (fun j hj => by rw [Nat.add_zero, cell_eq g1 (by omega)]; rfl) (fun j hj => by rw [Nat.add_zero]; exact frozen_false g1 g3) h1
  obtain ⟨a1, a2, a3, a4, a5, c', a6, a7, a8, a9⟩ := setCells_heap B e f vs (b + o) w c g1
  rw [Nat.add_zero] at hst
  have hd := h.dom id _ hr
  have hlt := h.lt id _ _ hr
  have hs := Ghost.set_self hr
  refine ⟨_, hst, ?_⟩
  have := h.step (S' := S.put id ((S.get id).1, .row (putC cells o xs))) (w' := w.setCells B (b + o) vs) id (S.get id).1 B b (.row (putC cells o xs)) (by simp) (by simpa using hd) (fun i hi => St.get_put_ne S _ _ hi)
    (St.get_put_eq S _ _ hd) (Nat.le_refl _) (fun _ p hp => by rw [hr] at hp; cases hp; rfl) a1 a2 a3 (by omega) (fun j hj hne => a5 j fun e => hne b (e ▸ hr)) ?_ (.inl ⟨b, hr⟩) (by omega) fun he => ?_
  · rwa [hs] at this
  · intro j c0 e0 f0 hj
    by_cases hjB : j = B
    · subst hjB
      rw [g1] at hj; cases hj
      exact ⟨c', f, a6, a7⟩
    · exact ⟨c0, f0, by rw [a5 j hjB]; exact hj, rfl⟩
  · refine ⟨c', e, f, a6, by rw [putC_length _ _ _ ho, a7]; exact g2, g3, fun j hj => ?_, fun j x hx => ?_⟩
    · rw [putC_length _ _ _ ho] at hj
      by_cases hin : o ≤ j ∧ j < o + xs.length
      · have e1 := a8 (j - o) (by omega) (by omega)
        rw [show b + o + (j - o) = b + j from by omega] at e1
        rw [e1]
        have hjl : j - o < vs.length := by omega
        rw [List.getD_eq_getElem?_getD, List.getElem?_eq_getElem hjl]
        exact h1 _ (List.getElem_mem hjl)
      · rw [a9 (b + j) (by omega)]; exact g4 j hj
    · rw [putC_get _ _ _ ho] at hx
      split at hx
      · rename_i hin
        have e1 := a8 (j - o) (by omega) (by omega)
        rw [show b + o + (j - o) = b + j from by omega] at e1
        rw [e1]
        exact (hv _ _ hx).ext he
      · rename_i hin
        have hjl : j < cells.length := (List.getElem?_eq_some_iff.1 hx).1
        rw [a9 (b + j) (by omega)]
        exact (g5 j x hx).ext he

/-- What a pointer's or a slice's cells hold. -/
theorem row_cells {W0 : World} {ρ : Ghost} {S : St} {w : World} (h : SRel W0 ρ S w) {id B b : Nat} {cells : List AV} (hr : ρ id = some (B, b)) (hk : (S.get id).2 = .row cells) :
    ∃ cs : Nat → Value, (∀ j, j < cells.length → w.cell? ⟨B, b + j, none⟩ = some (cs j)) ∧ (∀ j, j < cells.length → (cs j).oneCell' = true) ∧ ∀ j x, cells[j]? = some x → VRel ρ S w x (cs j) := by
  have hb := h.blk id B b hr
  rw [hk] at hb
  obtain ⟨c, e, f, g1, g2, g3, g4, g5⟩ := hb
  exact ⟨fun j => c.getD (b + j) undef, fun j hj => cell_eq g1 (by omega), g4, g5⟩

end Go.Proofs.YtnfiihdebonadaaGreatDoor.Abs
namespace Go.Proofs.YtnfiihdebonadaaGreatDoor.Abs

def AV.ofValue1 : Value → AV
  | .int k n => .int k n
  | .bool b => .bool b
  | .string s => .str s.data.toList
  | .slice none 0 0 => .list true 0 []
  | v => .val v

def AV.ofValue : Value → AV
  | .agg cs => .agg (cs.toList.map AV.ofValue1)
  | v => AV.ofValue1 v

theorem VRel.ofValue1 {ρ : Ghost} {S : St} {w : World} (v : Value) : VRel ρ S w (AV.ofValue1 v) v := by
  unfold AV.ofValue1
  split
  · exact .int _ _
  · exact .bool _
  · exact .str _
  · exact .list true 0 [] none 0 (fun _ => Go.undef) (Nat.le_refl _) (fun _ => rfl) (.inl rfl) (fun j hj => by simp at hj) (fun j x hx => by simp at hx)
  · exact .val _

/-- A constant whose cells are one cell each. -/
def okConst : Value → Bool
  | .agg cs => cs.all (·.oneCell')
  | _ => true

theorem VRel.ofValue {ρ : Ghost} {S : St} {w : World} (v : Value) (h : okConst v = true) : VRel ρ S w (AV.ofValue v) v := by
  unfold AV.ofValue
  split
  · rename_i cs
    refine .agg _ _ (by simp) (fun j hj => ?_) fun j x hx => ?_
    · have := Array.all_eq_true.1 h j hj
      simpa [hj] using this
    · rw [List.getElem?_map] at hx
      cases hc : cs.toList[j]? with
      | none => simp [hc] at hx
      | some u =>
        simp only [hc, Option.map_some, Option.some.injEq] at hx
        subst hx
        have : cs.getD j Go.undef = u := by
          rw [Array.getElem?_toList] at hc
          simp [hc]
        rw [this]
        exact .ofValue1 u
  · exact .ofValue1 v

abbrev Env := Nat → AV
def Env.set (e : Env) (d : Nat) (x : AV) : Env := fun t => if t = d then x else e t
theorem Env.set_eq (e : Env) (d x) : (e.set d x) d = x := by simp [Env.set]
theorem Env.set_ne (e : Env) (d x) {t : Nat} (h : t ≠ d) : (e.set d x) t = e t := by simp [Env.set, h]

def evA (e : Env) : Operand → AV
  | .tmp t => e t
  | .const v => AV.ofValue v
  | .global g => .val (.pointer (some ⟨g, 0, none⟩))
  | .func f => .val (.func (.func f) #[] #[])

def okOpd : Operand → Bool
  | .const v => okConst v
  | _ => true

def ERel (ρ : Ghost) (S : St) (w : World) (e : Env) (a : Act) : Prop := ∀ t, VRel ρ S w (e t) (a.tmps.getD t undef)

theorem ERel.ev {ρ : Ghost} {S : St} {w : World} {e : Env} {a : Act} (h : ERel ρ S w e a) (x : Operand) (hx : okOpd x = true) : VRel ρ S w (evA e x) (a.eval x) := by
  cases x with
  | tmp t => exact h t
  | const v => exact .ofValue v hx
  | global g => exact .val _
  | func f => exact .val _

theorem ERel.ext {ρ ρ' : Ghost} {S S' : St} {w w' : World} {e : Env} {a : Act} (h : ERel ρ S w e a) (he : Ext ρ S w ρ' S' w') : ERel ρ' S' w' e a := fun t => (h t).ext he

theorem ERel.put {ρ : Ghost} {S : St} {w : World} {e : Env} {a : Act} (h : ERel ρ S w e a) (d : Nat) (hd : d < a.tmps.size) {x : AV} {v : Value} (hv : VRel ρ S w x v) : ERel ρ S w (e.set d x) (a.put (some d) v) := by
  intro t
  simp only [Act.put]
  by_cases ht : t = d
  · subst ht
    rw [Env.set_eq]
    simpa [hd] using hv
  · rw [Env.set_ne _ _ _ ht]
    have : (a.tmps.setIfInBounds d v).getD t Go.undef = a.tmps.getD t Go.undef := by
      simp [Array.getElem?_setIfInBounds_ne (Ne.symm ht)]
    rw [this]; exact h t

/-- What types say. -/
def tyAgg (P : Program) (T : TypeId) : Option Bool :=
  match P.underlying T with
  | some (.struct _) | some (.array _ _) => some true
  | some _ => some false
  | none => none
def tySize (P : Program) (T : TypeId) : Option Nat := (P.info? T).map (·.size)
def tyBytes (P : Program) (T : TypeId) : Option Nat := (P.info? T).map (·.bytes)
def tyZero (P : Program) (T : TypeId) : Option Value := (P.info? T).bind (·.zero)

theorem run_isAgg {P : Program} {T : TypeId} {b : Bool} (h : tyAgg P T = some b) (w : World) : (isAgg T).run P w = .ok b w := by
  unfold tyAgg at h
  cases hu : P.underlying T with
  | none => simp [hu] at h
  | some d =>
    rw [hu] at h
    simp only [isAgg, Sem.run_bind, run_underlying hu, Result.andThen_ok]
    cases d <;> simp at h <;> subst h <;> rfl
theorem run_sizeOf {P : Program} {T : TypeId} {n : Nat} (h : tySize P T = some n) (w : World) : (sizeOf T).run P w = .ok n w := by
  unfold tySize at h
  cases hi : P.info? T with
  | none => simp [hi] at h
  | some i => simp [hi] at h; simp [sizeOf, typeInfo, hi, h]
theorem run_bytes {P : Program} {T : TypeId} {n : Nat} (h : tyBytes P T = some n) (w : World) : ∃ i, (typeInfo T).run P w = .ok i w ∧ i.bytes = n := by
  unfold tyBytes at h
  cases hi : P.info? T with
  | none => simp [hi] at h
  | some i => simp [hi] at h; exact ⟨i, by simp [typeInfo, hi], h⟩
theorem run_zero {P : Program} {T : TypeId} {z : Value} (h : tyZero P T = some z) (w : World) : (zeroValue T).run P w = .ok z w := by
  unfold tyZero at h
  cases hi : P.info? T with
  | none => simp [hi] at h
  | some i => simp [hi] at h; simp [zeroValue, typeInfo, hi, h]

/-- A part of cells. -/
def sliceA (cells : List AV) (off n : Nat) (ag : Bool) : Option AV :=
  if ag = true then (if off + n ≤ cells.length then some (.agg ((cells.drop off).take n)) else none) else cells[off]?

def loadA (S : St) (n : Nat) (ag : Bool) : AV → Option AV
  | .ptr id ver off =>
    if (S.get id).1 = ver then
      match (S.get id).2 with
      | .row cells => sliceA cells off n ag
      | _ => none
    else none
  | .eptr cells off => sliceA cells off n ag
  | _ => none

theorem load_cells {P : Program} {ρ : Ghost} {S : St} {w : World} {T : TypeId} {n : Nat} {ag : Bool} {cells : List AV} {off B o : Nat} {cs : Nat → Value} {r : AV} (hT : tyAgg P T = some ag) (hn : tySize P T = some n)
    (hc : ∀ j, j < cells.length → w.cell? ⟨B, o + j, none⟩ = some (cs j)) (h1 : ∀ j, j < cells.length → (cs j).oneCell' = true) (h : ∀ j x, cells[j]? = some x → VRel ρ S w x (cs j))
    (he : sliceA cells off n ag = some r) : ∃ u, (Instr.loadAt T (.pointer (some ⟨B, o + off, none⟩))).run P w = .ok u w ∧ VRel ρ S w r u := by
  unfold sliceA at he
  simp only [Instr.loadAt, Instr.sureAddr, Sem.run_bind, Sem.run_pure, Result.andThen_ok, loadVar, run_isAgg hT]
  cases ag with
  | true =>
    simp only [if_true] at he ⊢
    split at he
    · rename_i hle
      cases he
      have hl := run_loadCells (P := P) w ⟨B, o + off, none⟩ n (fun j => cs (off + j)) (fun j hj => by rw [addr_add, Nat.add_assoc]; exact hc _ (by omega))
      refine ⟨.agg ((List.range n).map fun j => cs (off + j)).toArray, by simp [run_sizeOf hn, hl], .agg _ _ (by simp; omega) (fun j hj => ?_) fun j x hx => ?_⟩
      · simp at hj
        simpa [hj] using h1 (off + j) (by omega)
      · rw [List.getElem?_take] at hx
        split at hx
        · rename_i hj
          rw [List.getElem?_drop] at hx
          simpa [hj] using h _ x hx
        · cases hx
    · cases he
  | false =>
    simp only [Bool.false_eq_true, if_false] at he ⊢
    have hlt := (List.getElem?_eq_some_iff.1 he).1
    exact ⟨cs off, by simp [hc off hlt], h off r he⟩

theorem load_sound {P : Program} {W0 : World} {ρ : Ghost} {S : St} {w : World} {T : TypeId} {n : Nat} {ag : Bool} {x r : AV} {v : Value} (h : SRel W0 ρ S w) (hT : tyAgg P T = some ag) (hn : tySize P T = some n)
    (hx : VRel ρ S w x v) (he : loadA S n ag x = some r) : ∃ u, (Instr.loadAt T v).run P w = .ok u w ∧ VRel ρ S w r u := by
  cases hx with
  | ptr id ver off v h1 hid hver hp =>
    simp only [loadA] at he
    split at he
    · rename_i hv
      obtain ⟨B, b, hr, rfl⟩ := hp hv
      split at he
      · rename_i cells hk
        obtain ⟨cs, c1, c2, c3⟩ := row_cells h hr hk
        exact load_cells hT hn c1 c2 c3 he
      · cases he
    · cases he
  | eptr cells off B o cs hc h1 hh =>
    simp only [loadA] at he
    rcases hc with hc | ⟨_, hc⟩
    · subst hc
      exact load_cells (cs := cs) hT hn (fun j hj => by simp at hj) (fun j hj => by simp at hj) (fun j x hx => by simp at hx) he
    · exact load_cells hT hn hc h1 hh he
  | _ => simp [loadA] at he

/-- A store. -/
def storeA (S : St) (n : Nat) (x y : AV) : Option St :=
  match x with
  | .ptr id ver off =>
    if (S.get id).1 = ver then
      match (S.get id).2 with
      | .row cells =>
        match y.cellsOf with
        | some cs => if cs.length = n ∧ off + n ≤ cells.length then some (S.put id (ver, .row (putC cells off cs))) else none
        | none => none
      | _ => none
    else none
  | _ => none

theorem store_sound {P : Program} {W0 : World} {ρ : Ghost} {S S' : St} {w : World} {T : TypeId} {n : Nat} {x y : AV} {v u : Value} (h : SRel W0 ρ S w) (hn : tySize P T = some n)
    (hx : VRel ρ S w x v) (hy : VRel ρ S w y u) (he : storeA S n x y = some S') : ∃ w', (Instr.storeAt T v u).run P w = .ok () w' ∧ SRel W0 ρ S' w' ∧ Ext ρ S w ρ S' w' := by
  cases hx with
  | ptr id ver off v h1 hid hver hp =>
    simp only [storeA] at he
    split at he
    · rename_i hv
      obtain ⟨B, b, hr, rfl⟩ := hp hv
      split at he
      · rename_i cells hk
        split at he
        · rename_i cs hcs
          split at he
          · rename_i hle
            cases he
            obtain ⟨c1, c2, c3⟩ := hy.cells hcs
            obtain ⟨w', g1, g2, g3⟩ := h.write (P := P) hr hk off cs u.cells.toList (by simpa using c1) (by omega) (fun z hz => by
                obtain ⟨j, hj, rfl⟩ := List.getElem_of_mem hz
                have := c2 j (by simp at hj; omega)
                simp at hj
                simpa [hj] using this) (fun j z hz => by simpa using c3 j z hz)
            rw [hv] at g2 g3
            refine ⟨w', ?_, g2, g3⟩
            simp [Instr.storeAt, Instr.sureAddr, storeVar, run_sizeOf hn, c1, hle.1, g1]
          · cases he
        · cases he
      · cases he
    · cases he
  | _ => simp [storeA] at he

end Go.Proofs.YtnfiihdebonadaaGreatDoor.Abs
