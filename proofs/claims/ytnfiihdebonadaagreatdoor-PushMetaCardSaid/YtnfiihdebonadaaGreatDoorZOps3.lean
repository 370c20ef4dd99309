import Derived.Test.YtnfiihdebonadaaGreatDoorZVal
import Derived.Laws.Bits
import Derived.Laws.Concat
import Derived.Laws.Strings
import Derived.Laws.BytesArg
import Derived.Lib.ConvBytes
import Derived.Laws.Slices
set_option linter.unusedSimpArgs false
set_option linter.unusedVariables false
set_option linter.unusedSectionVars false
namespace Go.Proofs.YtnfiihdebonadaaGreatDoor.Abs

def bitsI (op : BinOp) (k : IntKind) (x y : Int) : Int :=
  k.wrap ((match op with
    | .and => BitVec.ofInt k.bits x &&& BitVec.ofInt k.bits y
    | .or => BitVec.ofInt k.bits x ||| BitVec.ofInt k.bits y
    | .xor => BitVec.ofInt k.bits x ^^^ BitVec.ofInt k.bits y
    | _ => BitVec.ofInt k.bits x &&& ~~~ BitVec.ofInt k.bits y).toNat : Nat)

def shlI (k : IntKind) (x y : Int) : Int := k.wrap (x * 2 ^ (min y.toNat k.bits))
def shrI (k : IntKind) (x y : Int) : Int := x.fdiv (2 ^ (min y.toNat k.bits))

def intBin (op : BinOp) (k : IntKind) (a b : Int) : Option AV :=
  match op with
  | .add => some (.int k (k.wrap (a + b)))
  | .sub => some (.int k (k.wrap (a - b)))
  | .mul => some (.int k (k.wrap (a * b)))
  | .quo => if b = 0 then none else some (.int k (k.wrap (a.tdiv b)))
  | .rem => if b = 0 then none else some (.int k (a.tmod b))
  | .and => some (.int k (bitsI .and k a b))
  | .or => some (.int k (bitsI .or k a b))
  | .xor => some (.int k (bitsI .xor k a b))
  | .andNot => some (.int k (bitsI .andNot k a b))
  | .eql => some (.bool (decide (a = b)))
  | .neq => some (.bool (decide (a ≠ b)))
  | .lss => some (.bool (decide (a < b)))
  | .leq => some (.bool (decide (a ≤ b)))
  | .gtr => some (.bool (decide (b < a)))
  | .geq => some (.bool (decide (b ≤ a)))
  | _ => none

def strBin (op : BinOp) (a b : List UInt8) : Option AV :=
  match op with
  | .add => if a.length + b.length ≤ 9223372036854775807 then some (.str (a ++ b)) else none
  | .eql => some (.bool (decide (a = b)))
  | .neq => some (.bool (decide (a ≠ b)))
  | .lss => some (.bool (Op.bytesLess a b))
  | .leq => some (.bool (Op.bytesLess a b || decide (a = b)))
  | .gtr => some (.bool !(Op.bytesLess a b || decide (a = b)))
  | .geq => some (.bool !(Op.bytesLess a b))
  | _ => none

/-- How values of a type are compared. -/
inductive EqK where
  | prim | bool | ptr | nilI
  deriving DecidableEq, Repr

def eqA (op : BinOp) (b : Bool) : Option AV :=
  match op with
  | .eql => some (.bool b)
  | .neq => some (.bool !b)
  | _ => none

def isNilP (S : St) : AV → Option Bool
  | .ptr id ver _ => if (S.get id).1 = ver then some false else none
  | .eptr _ _ => some false
  | .val (.pointer none) => some true
  | _ => none

def isNilI : AV → Option Bool
  | .iface _ _ => some false
  | .val .nilIface => some true
  | _ => none

def eqP (S : St) (x y : AV) : Option Bool :=
  match x, y with
  | .ptr id ver off, .ptr id' ver' off' =>
    if (S.get id).1 = ver ∧ (S.get id').1 = ver' then
      match (S.get id).2, (S.get id').2 with
      | .row _, .row _ => some (decide (id = id' ∧ off = off'))
      | _, _ => none
    else none
  | x, .val (.pointer none) => isNilP S x
  | _, _ => none

def eqI (x y : AV) : Option Bool :=
  match y with
  | .val .nilIface => isNilI x
  | _ => none

def binA (S : St) (kd : EqK) (op : BinOp) (x y : AV) : Option AV :=
  match kd with
  | .prim =>
    match x, y with
    | .int k a, .int k' b =>
      match op with
      | .shl => if b < 0 then none else some (.int k (shlI k a b))
      | .shr => if b < 0 then none else some (.int k (shrI k a b))
      | _ => if k = k' then intBin op k a b else none
    | .str a, .str b => strBin op a b
    | _, _ => none
  | .bool =>
    match x, y with
    | .bool a, .bool b => eqA op (a == b)
    | _, _ => none
  | .ptr => (eqP S x y).bind (eqA op)
  | .nilI => (eqI x y).bind (eqA op)

/-- The kind of a type whose values are compared here. -/
def eqKind (P : Program) (T : TypeId) (y : Operand) : Option EqK :=
  match P.underlying T with
  | some (.int _) | some .string => some .prim
  | some .bool => some .bool
  | some (.pointer e) => match tySize P e with | some (_ + 1) => some .ptr | _ => none
  | some (.interface _) => match y with | .const .nilIface => some .nilI | _ => none
  | _ => none

theorem sameAddr_sound {P : Program} {W0 : World} {ρ : Ghost} {S : St} {w : World} (h : SRel W0 ρ S w) {i j B C b c o p : Nat} (hi : ρ i = some (B, b)) (hj : ρ j = some (C, c))
    {cells cells' : List AV} (ki : (S.get i).2 = .row cells) (kj : (S.get j).2 = .row cells') :
    (sameAddr ⟨B, b + o, none⟩ ⟨C, c + p, none⟩).run P w = .ok (decide (i = j ∧ o = p)) w := by
  have r1 := h.blk i B b hi
  have r2 := h.blk j C c hj
  rw [ki] at r1
  rw [kj] at r2
  obtain ⟨c1, e1, f1, g1, _, g3, _⟩ := r1
  obtain ⟨c2, e2, f2, k1, _, k3, _⟩ := r2
  by_cases hBC : B = C
  · have hij : i = j := by subst hBC; exact h.inj i j B b c hi hj
    subst hij
    rw [hi] at hj; cases hj
    have e : ((⟨B, b + o, none⟩ : Addr) == ⟨B, b + p, none⟩) = decide (i = i ∧ o = p) := by
      by_cases ho : o = p
      · subst ho; simp
      · have : (⟨B, b + o, none⟩ : Addr) ≠ ⟨B, b + p, none⟩ := by simp; omega
        simp [this, ho]
    simp [sameAddr, e]
  · have hij : i ≠ j := fun e => by subst e; rw [hi] at hj; cases hj; exact hBC rfl
    have z1 : ∀ q, w.frozen? ⟨B, q, none⟩ = false := fun q => frozen_false g1 g3
    have z2 : ∀ q, w.frozen? ⟨C, q, none⟩ = false := fun q => frozen_false k1 k3
    have s1 : w.shape? B = some (e1, c1.size) := by simp [World.shape?, g1]
    have s2 : w.shape? C = some (e2, c2.size) := by simp [World.shape?, k1]
    simp [sameAddr, hBC, hij, z1, z2, noView, viewAt, s1, s2, mayBeOne, stringish]

theorem eqGuard_pure {P : Program} {op : BinOp} {T : TypeId} {xo yo : Operand} {v u : Value} (w : World) (h1 : ∀ cs ds, ¬ (v = .agg cs ∧ u = .agg ds)) (h2 : v = .nilIface → u = .nilIface → yo = .const .nilIface) :
    (eqGuard op T xo yo v u).run P w = .ok () w := by
  cases op <;> try rfl
  all_goals
    cases v <;> cases u <;> first
      | rfl
      | exact absurd ⟨rfl, rfl⟩ (h1 _ _)
      | (have := h2 rfl rfl; subst this; simp [eqGuard])

theorem eqKind_int {P : Program} {T : TypeId} {op : BinOp} {yo : Operand} {k : IntKind} {a b : Int} {xo : Operand} (w : World) : (eqGuard op T xo yo (.int k a) (.int k b)).run P w = .ok () w :=
  eqGuard_pure w (fun _ _ h => by cases h.1) (fun h => by cases h)

theorem intBin_sound {P : Program} {ρ : Ghost} {S : St} {w : World} {T : TypeId} {op : BinOp} {k : IntKind} {a b : Int} {r : AV} (he : intBin op k a b = some r) :
    ∃ z, (binOp op T (.int k a) (.int k b)).run P w = .ok z w ∧ VRel ρ S w r z := by
  have e1 : (a == b) = decide (a = b) := rfl
  have e2 : (a != b) = decide (a ≠ b) := by by_cases h : a = b <;> simp [h]
  cases op <;> simp only [intBin] at he <;> (try (split at he)) <;> (try cases he) <;>
    simp_all [binOp, Op.intArith, Op.intDiv, Op.intBits, Op.intCmp, bitsI] <;> first | exact VRel.int _ _ | exact VRel.bool _

theorem strBin_sound {P : Program} {ρ : Ghost} {S : St} {w : World} {T : TypeId} {op : BinOp} {a b : List UInt8} {r : AV} (he : strBin op a b = some r) :
    ∃ z, (binOp op T (.string ⟨a.toArray⟩) (.string ⟨b.toArray⟩)).run P w = .ok z w ∧ VRel ρ S w r z := by
  have e1 : (a == b) = decide (a = b) := by by_cases h : a = b <;> simp [h]
  have e2 : (!(decide (a = b))) = decide (a ≠ b) := by by_cases h : a = b <;> simp [h]
  cases op <;> simp only [strBin] at he <;> (try (split at he)) <;> (try cases he)
  case add.isTrue.refl hle =>
    refine ⟨.string (⟨a.toArray⟩ ++ ⟨b.toArray⟩), ?_, ?_⟩
    · simp only [binOp]
      exact run_string_add_sum _ _ _ (by simpa [ByteArray.size] using hle)
    · rw [ByteArray.mk_append_mk]; exact .str _
  case neq.refl => simp only [binOp, Op.stringOp, ByteArray.toList_mk, e1, e2]; exact ⟨_, rfl, .bool _⟩
  all_goals (simp only [binOp, Op.stringOp, ByteArray.toList_mk, e1]; exact ⟨_, rfl, .bool _⟩)

theorem equal_bool {P : Program} {T : TypeId} (hu : P.underlying T = some .bool) (d : Nat) (a b : Bool) (w : World) : (Op.equalIn (d + 1) T (.bool a) (.bool b)).run P w = .ok (a == b) w := by
  simp only [Op.equalIn, Sem.run_bind, run_underlying hu, Result.andThen_ok, Sem.run_pure]
theorem equal_ptr_nil {P : Program} {T e : TypeId} (hu : P.underlying T = some (.pointer e)) (d : Nat) (a : Option Addr) (w : World) : (Op.equalIn (d + 1) T (.pointer a) (.pointer none)).run P w = .ok a.isNone w := by
  cases a <;> simp only [Op.equalIn, Sem.run_bind, run_underlying hu, Result.andThen_ok, Sem.run_pure, Option.isNone]
theorem equal_ptr_ptr {P : Program} {T e : TypeId} {n : Nat} (hu : P.underlying T = some (.pointer e)) (hn : tySize P e = some (n + 1)) (d : Nat) (a b : Addr) (w : World) {r : Bool} (h : (sameAddr a b).run P w = .ok r w) :
    (Op.equalIn (d + 1) T (.pointer (some a)) (.pointer (some b))).run P w = .ok r w := by
  simp only [Op.equalIn, Sem.run_bind, run_underlying hu, Result.andThen_ok, run_sizeOf hn]
  rw [if_pos (by omega)]; exact h
theorem equal_iface_nil {P : Program} {T : TypeId} {ms : Array (String × TypeId)} (hu : P.underlying T = some (.interface ms)) (d : Nat) (t : TypeId) (v : Value) (w : World) :
    (Op.equalIn (d + 1) T (.iface t v) .nilIface).run P w = .ok false w := by
  simp only [Op.equalIn, Sem.run_bind, run_underlying hu, Result.andThen_ok, Sem.run_pure]
theorem equal_nil_nil {P : Program} {T : TypeId} {ms : Array (String × TypeId)} (hu : P.underlying T = some (.interface ms)) (d : Nat) (w : World) :
    (Op.equalIn (d + 1) T .nilIface .nilIface).run P w = .ok true w := by
  simp only [Op.equalIn, Sem.run_bind, run_underlying hu, Result.andThen_ok, Sem.run_pure]
theorem equal_eq (T : TypeId) (v u : Value) : Op.equal T v u = Op.equalIn (9999 + 1) T v u := rfl

/-- An equality that the model asks. -/
theorem eq_fin {P : Program} {ρ : Ghost} {S : St} {w : World} {T : TypeId} {op : BinOp} {v u : Value} {b : Bool} {r : AV} (hq : (Op.equal T v u).run P w = .ok b w) (he : eqA op b = some r)
    (h1 : binOp .eql T v u = (do pure (.bool (← Op.equal T v u)))) (h2 : binOp .neq T v u = (do pure (.bool (!(← Op.equal T v u))))) : ∃ z, (binOp op T v u).run P w = .ok z w ∧ VRel ρ S w r z := by
  cases op <;> simp [eqA] at he <;> subst he
  · exact ⟨.bool b, by simp [h1, hq], .bool _⟩
  · exact ⟨.bool !b, by simp [h2, hq], .bool _⟩

theorem bin_sound {P : Program} {W0 : World} {ρ : Ghost} {S : St} {w : World} {T : TypeId} {kd : EqK} {op : BinOp} {xo yo : Operand} {x y r : AV} {v u : Value} (h : SRel W0 ρ S w)
    (hx : VRel ρ S w x v) (hy : VRel ρ S w y u) (hk : eqKind P T yo = some kd) (hyo : ∀ c, yo = .const c → c = .nilIface → u = .nilIface) (he : binA S kd op x y = some r) :
    ∃ z, ((do eqGuard op T xo yo v u; binOp op T v u) : Sem Value).run P w = .ok z w ∧ VRel ρ S w r z := by
  have fin : ∀ {v u : Value}, (∀ cs ds, ¬ (v = .agg cs ∧ u = .agg ds)) → (v = .nilIface → u = .nilIface → yo = .const .nilIface) → (∃ z, (binOp op T v u).run P w = .ok z w ∧ VRel ρ S w r z) →
      ∃ z, ((do eqGuard op T xo yo v u; binOp op T v u) : Sem Value).run P w = .ok z w ∧ VRel ρ S w r z := by
    intro v u h1 h2 ⟨z, h3, h4⟩
    exact ⟨z, by simp [eqGuard_pure w h1 h2, h3], h4⟩
  cases kd with
  | prim =>
    cases hx with
    | int k a =>
      cases hy with
      | int k' b =>
        refine fin (fun _ _ h => by cases h.1) (fun h => by cases h) ?_
        have gen : (if k = k' then intBin op k a b else none) = some r → ∃ z, (binOp op T (.int k a) (.int k' b)).run P w = .ok z w ∧ VRel ρ S w r z := by
          intro he'
          split at he'
          · rename_i hkk; subst hkk; exact intBin_sound he'
          · cases he'
        cases op <;> simp only [binA] at he
        case shl =>
          split at he
          · cases he
          · rename_i hb; cases he
            exact ⟨_, by simp [binOp, Op.shift, hb]; rfl, .int _ _⟩
        case shr =>
          split at he
          · cases he
          · rename_i hb; cases he
            exact ⟨_, by simp [binOp, Op.shift, hb]; rfl, .int _ _⟩
        all_goals exact gen he
      | _ => simp [binA] at he
    | str a =>
      cases hy with
      | str b => exact fin (fun _ _ h => by cases h.1) (fun h => by cases h) (strBin_sound he)
      | _ => simp [binA] at he
    | _ => simp [binA] at he
  | bool =>
    have hu : P.underlying T = some .bool := by
      unfold eqKind at hk
      split at hk <;> first | assumption | (simp at hk) | (split at hk <;> simp at hk)
    cases hx with
    | bool a =>
      cases hy with
      | bool b => exact fin (fun _ _ h => by cases h.1) (fun h => by cases h) (eq_fin (b := a == b) (by rw [equal_eq]; exact equal_bool hu _ a b w) he rfl rfl)
      | _ => simp [binA] at he
    | _ => simp [binA] at he
  | ptr =>
    obtain ⟨e, n, hu, hn⟩ : ∃ e n, P.underlying T = some (.pointer e) ∧ tySize P e = some (n + 1) := by
      unfold eqKind at hk
      split at hk <;> first | (simp at hk; done) | skip
      · rename_i e hu
        split at hk
        · rename_i n hn; exact ⟨e, n, hu, hn⟩
        · cases hk
      · split at hk <;> simp at hk
    simp only [binA, Option.bind_eq_some_iff] at he
    obtain ⟨b, hb, he⟩ := he
    have nilcase : ∀ {v u : Value} {a : Option Addr}, b = a.isNone → v = .pointer a → u = .pointer none → ∃ z, ((do eqGuard op T xo yo v u; binOp op T v u) : Sem Value).run P w = .ok z w ∧ VRel ρ S w r z := by
      intro v u a hb' hv hu'
      subst hv; subst hu'
      refine fin (fun _ _ h => by cases h.1) (fun h => by cases h) (eq_fin (b := b) (by rw [equal_eq, hb']; exact equal_ptr_nil hu _ a w) he ?_ ?_)
      · cases a <;> rfl
      · cases a <;> rfl
    cases hy with
    | val u =>
      cases u with
      | pointer a' =>
        cases a' with
        | none =>
          have hb2 : isNilP S x = some b := by cases x <;> exact hb
          cases hx with
          | ptr id ver off v h1 hid hver hp =>
            simp only [isNilP] at hb2
            split at hb2
            · rename_i hv
              cases hb2
              obtain ⟨B, c, _, rfl⟩ := hp hv
              exact nilcase (a := some _) rfl rfl rfl
            · cases hb2
          | eptr cells off B o cs hc h1 hh => cases hb2; exact nilcase (a := some _) rfl rfl rfl
          | val v =>
            cases v with
            | pointer a =>
              cases a with
              | none => cases hb2; exact nilcase (a := none) rfl rfl rfl
              | some a => simp [isNilP] at hb2
            | _ => simp [isNilP] at hb2
          | _ => simp [isNilP] at hb2
        | some a => cases x <;> simp [eqP] at hb
      | _ => cases x <;> simp [eqP] at hb
    | ptr id' ver' off' u h1' hid' hver' hp' =>
      cases hx with
      | ptr id ver off v h1 hid hver hp =>
        simp only [eqP] at hb
        split at hb
        · rename_i hv
          obtain ⟨B, c, hr, rfl⟩ := hp hv.1
          obtain ⟨B', c', hr', rfl⟩ := hp' hv.2
          split at hb
          · rename_i k1 k2
            cases hb
            exact fin (fun _ _ h => by cases h.1) (fun h => by cases h) (eq_fin (by rw [equal_eq]; exact equal_ptr_ptr hu hn _ _ _ w (sameAddr_sound h hr hr' k1 k2)) he rfl rfl)
          · cases hb
        · cases hb
      | _ => simp [eqP] at hb
    | _ => cases x <;> simp [eqP] at hb
  | nilI =>
    obtain ⟨ms, hu, hyc⟩ : ∃ ms, P.underlying T = some (.interface ms) ∧ yo = .const .nilIface := by
      unfold eqKind at hk
      split at hk <;> first | (simp at hk; done) | skip
      · split at hk <;> simp at hk
      · rename_i ms hu
        split at hk
        · exact ⟨ms, hu, rfl⟩
        · cases hk
    simp only [binA, Option.bind_eq_some_iff] at he
    obtain ⟨b, hb, he⟩ := he
    have hun := hyo _ hyc rfl
    subst hun
    have hb2 : isNilI x = some b := by
      cases hy with
      | val _ => exact hb
      | _ => simp [eqI] at hb
    cases hx with
    | iface t x v hxv => cases hb2; exact fin (fun _ _ h => by cases h.1) (fun h => by cases h) (eq_fin (by rw [equal_eq]; exact equal_iface_nil hu _ t v w) he rfl rfl)
    | val v =>
      cases v with
      | nilIface => cases hb2; exact fin (fun _ _ h => by cases h.1) (fun _ _ => hyc) (eq_fin (by rw [equal_eq]; exact equal_nil_nil hu _ w) he rfl rfl)
      | _ => simp [isNilI] at hb2
    | _ => simp [isNilI] at hb2

end Go.Proofs.YtnfiihdebonadaaGreatDoor.Abs
namespace Go.Proofs.YtnfiihdebonadaaGreatDoor.Abs

/-- A run that ends well, its value and its memory as told. -/
def Res (P : Program) (W0 : World) (ρ : Ghost) (S : St) (w : World) (m : Sem Value) (r : AV) (S' : St) : Prop :=
  ∃ v w' ρ', m.run P w = .ok v w' ∧ VRel ρ' S' w' r v ∧ SRel W0 ρ' S' w' ∧ Ext ρ S w ρ' S' w'

theorem Res.pure {P : Program} {W0 : World} {ρ : Ghost} {S : St} {w : World} {m : Sem Value} {r : AV} {v : Value} (h : SRel W0 ρ S w) (hm : m.run P w = .ok v w) (hr : VRel ρ S w r v) : Res P W0 ρ S w m r S :=
  ⟨v, w, ρ, hm, hr, h, .refl _ _ _⟩

/-- Cells that are told. -/
def CRel (ρ : Ghost) (S : St) (w : World) (cells : List AV) (cs : Array Value) : Prop :=
  cells.length = cs.size ∧ (∀ j, j < cs.size → (cs.getD j undef).oneCell' = true) ∧ ∀ j x, cells[j]? = some x → VRel ρ S w x (cs.getD j undef)

theorem CRel.ext {ρ ρ' : Ghost} {S S' : St} {w w' : World} {cells : List AV} {cs : Array Value} (h : CRel ρ S w cells cs) (he : Ext ρ S w ρ' S' w') : CRel ρ' S' w' cells cs :=
  ⟨h.1, h.2.1, fun j x hx => (h.2.2 j x hx).ext he⟩

theorem CRel.ofValues {ρ : Ghost} {S : St} {w : World} (zs : List Value) (h : zs.all (·.oneCell') = true) : CRel ρ S w (zs.map AV.ofValue1) zs.toArray := by
  refine ⟨by simp, fun j hj => ?_, fun j x hx => ?_⟩
  · simp at hj
    have := List.all_eq_true.1 h zs[j] (List.getElem_mem hj)
    simpa [hj] using this
  · rw [List.getElem?_map] at hx
    cases hc : zs[j]? with
    | none => simp [hc] at hx
    | some u =>
      simp only [hc, Option.map_some, Option.some.injEq] at hx
      subst hx
      have : zs.toArray.getD j Go.undef = u := by simp [hc]
      rw [this]; exact .ofValue1 u

theorem VRel.crel {ρ : Ghost} {S : St} {w : World} {x : AV} {v : Value} {cs : List AV} (h : VRel ρ S w x v) (hx : x.cellsOf = some cs) : CRel ρ S w cs v.cells := by
  obtain ⟨h1, h2, h3⟩ := h.cells hx
  exact ⟨h1.symm, fun j hj => h2 j (by omega), h3⟩

/-- A new block of cells that are told. -/
theorem Res.newRow {P : Program} {W0 : World} {ρ : Ghost} {S : St} {w : World} (h : SRel W0 ρ S w) {cells : List AV} {cs : Array Value} (hc : CRel ρ S w cells cs) (T : TypeId) :
    ∃ w' ρ', (Go.newRow T cs).run P w = .ok ⟨w.heap.size, 0, none⟩ w' ∧ ρ' S.len = some (w.heap.size, 0) ∧ w'.heap[w.heap.size]? = some (Obj.cells cs T (0, 0)) ∧ SRel W0 ρ' (S.push (.row cells)) w' ∧ Ext ρ S w ρ' (S.push (.row cells)) w' := by
  obtain ⟨h1, h2⟩ := h.alloc cs T (0, 0) (Nat.le_refl _) cells (by rw [hc.1]; exact Nat.le_refl _) (fun j hj => hc.2.1 j (by rw [← hc.1]; exact hj)) hc.2.2
  exact ⟨_, _, by simp [Go.newRow], Ghost.set_eq _ _ _, heap_alloc_new w _, h1, h2⟩

theorem alloc_sound {P : Program} {W0 : World} {ρ : Ghost} {S : St} {w : World} {T : TypeId} {z : Value} (h : SRel W0 ρ S w) (hz : tyZero P T = some z) (h1 : z.cells.toList.all (·.oneCell') = true) :
    Res P W0 ρ S w (Instr.alloc T true (.tuple #[])) (.ptr S.len 0 0) (S.push (.row (z.cells.toList.map AV.ofValue1))) := by
  have hc : CRel ρ S w (z.cells.toList.map AV.ofValue1) z.cells := by simpa using CRel.ofValues (ρ := ρ) (S := S) (w := w) z.cells.toList h1
  obtain ⟨w', ρ', g1, g2, _, g3, g4⟩ := Res.newRow (P := P) h hc T
  exact ⟨_, w', ρ', by simp [Instr.alloc, run_zero hz, newVar, g1], .ptr _ _ _ _ rfl (by simp) (Nat.zero_le _) fun _ => ⟨_, 0, g2, rfl⟩, g3, g4⟩

theorem box_sound {P : Program} {W0 : World} {ρ : Ghost} {S : St} {w : World} {T : TypeId} {x : AV} {v : Value} {cs : List AV} (h : SRel W0 ρ S w) (hx : VRel ρ S w x v) (hc : x.cellsOf = some cs) :
    Res P W0 ρ S w (Instr.box T v) (.ptr S.len 0 0) (S.push (.row cs)) := by
  obtain ⟨w', ρ', g1, g2, _, g3, g4⟩ := Res.newRow (P := P) h (hx.crel hc) T
  exact ⟨_, w', ρ', by simp [Instr.box, newVar, g1], .ptr _ _ _ _ rfl (by simp) (Nat.zero_le _) fun _ => ⟨_, 0, g2, rfl⟩, g3, g4⟩

/-- Parts laid over cells. -/
def fillA : List AV → List (Nat × Nat × AV) → Option (List AV)
  | cells, [] => some cells
  | cells, (off, size, v) :: rest =>
    match v.cellsOf with
    | some cs => if cs.length = size ∧ off + size ≤ cells.length then fillA (putC cells off cs) rest else none
    | none => none

theorem foldl_put (off : Nat) : ∀ (l : List Value) (k : Nat) (cs : Array Value), 
    ((l.zipIdx k).foldl (fun cs (p : Value × Nat) => cs.setIfInBounds (off + p.2) p.1) cs).size = cs.size ∧
    ∀ j, (((l.zipIdx k).foldl (fun cs (p : Value × Nat) => cs.setIfInBounds (off + p.2) p.1) cs).getD j undef) = if off + k ≤ j ∧ j < off + k + l.length ∧ j < cs.size then l.getD (j - (off + k)) undef else cs.getD j undef
  | [], k, cs => ⟨rfl, fun j => by rw [if_neg (by simp; omega)]; rfl⟩
  | v :: l, k, cs => by
    obtain ⟨h1, h2⟩ := foldl_put off l (k + 1) (cs.setIfInBounds (off + k) v)
    simp only [List.zipIdx_cons, List.foldl_cons]
    refine ⟨by rw [h1]; simp, fun j => ?_⟩
    rw [h2 j]
    simp only [Array.size_setIfInBounds, List.length_cons]
    by_cases hj : off + (k + 1) ≤ j ∧ j < off + (k + 1) + l.length ∧ j < cs.size
    · rw [if_pos hj, if_pos (by omega)]
      rw [show j - (off + k) = (j - (off + (k + 1))) + 1 from by omega]
      simp [List.getD]
    · rw [if_neg hj]
      by_cases hjk : j = off + k ∧ j < cs.size
      · obtain ⟨rfl, hlt⟩ := hjk
        rw [if_pos (by omega)]
        simp [hlt]
      · rw [if_neg (by omega)]
        by_cases he : off + k = j
        · subst he
          have : ¬ (off + k < cs.size) := by omega
          simp [this]
        · simp [Array.getElem?_setIfInBounds_ne he]

theorem CRel.put {ρ : Ghost} {S : St} {w : World} {cells ps : List AV} {cs vs : Array Value} {off : Nat} (h : CRel ρ S w cells cs) (hp : CRel ρ S w ps vs) (hl : off + ps.length ≤ cells.length) :
    CRel ρ S w (putC cells off ps) (vs.zipIdx.foldl (fun cs (c, j) => cs.setIfInBounds (off + j) c) cs) := by
  obtain ⟨f1, f2⟩ := foldl_put off vs.toList 0 cs
  have e : (vs.zipIdx.foldl (fun cs (c, j) => cs.setIfInBounds (off + j) c) cs) = ((vs.toList.zipIdx 0).foldl (fun cs (p : Value × Nat) => cs.setIfInBounds (off + p.2) p.1) cs) := by
    rw [← Array.foldl_toList, Array.toList_zipIdx]
  rw [e]
  obtain ⟨h1, h2, h3⟩ := h
  obtain ⟨p1, p2, p3⟩ := hp
  simp only [Nat.add_zero, Array.length_toList] at f2
  refine ⟨by rw [putC_length _ _ _ hl, f1, h1], fun j hj => ?_, fun j x hx => ?_⟩
  · rw [f2 j]
    split
    · have := p2 (j - off) (by omega)
      simpa using this
    · exact h2 j (by omega)
  · rw [putC_get _ _ _ hl] at hx
    rw [f2 j]
    split at hx
    · rename_i hin
      rw [if_pos (by omega)]
      have := p3 _ _ hx
      simpa using this
    · rename_i hin
      rw [if_neg (by omega)]
      exact h3 j x hx

theorem fill_sound {ρ : Ghost} {S : St} {w : World} (place : Nat → Option (Nat × Nat)) : ∀ (ps : List (Nat × Nat × AV)) (qs : List (Nat × Value)) (cells cells' : List AV) (cs : Array Value), CRel ρ S w cells cs →
    ps.length = qs.length → (∀ (j : Nat) (p : Nat × Nat × AV) (q : Nat × Value), ps[j]? = some p → qs[j]? = some q → place q.1 = some (p.1, p.2.1) ∧ VRel ρ S w p.2.2 q.2) → fillA cells ps = some cells' →
    ∃ cs', Instr.fill place cs qs = some cs' ∧ CRel ρ S w cells' cs'
  | [], [], cells, cells', cs, h, _, _, he => by simp [fillA] at he; subst he; exact ⟨cs, rfl, h⟩
  | (off, size, v) :: ps, (i, u) :: qs, cells, cells', cs, h, hl, hp, he => by
    obtain ⟨q1, q2⟩ := hp 0 _ _ rfl rfl
    simp only [fillA] at he
    split at he
    · rename_i xs hxs
      split at he
      · rename_i hle
        have hc := q2.crel hxs
        have hsz : u.cells.size = size := by rw [← hc.1]; exact hle.1
        obtain ⟨cs', g1, g2⟩ := fill_sound place ps qs (putC cells off xs) cells' _ (h.put hc (by omega)) (by simpa using hl) (fun j p q a b => hp (j + 1) p q (by simpa using a) (by simpa using b)) he
        refine ⟨cs', ?_, g2⟩
        simp only at q1
        simp only [Instr.fill, q1, hsz]
        have hne : ¬ ((size ≠ size) || (off + size > cs.size)) = true := by
          have := h.1
          simp; omega
        simp only [ne_eq, not_true_eq_false, decide_false, Bool.false_or, decide_eq_true_eq] at hne ⊢
        rw [if_neg hne]
        exact g1
      · cases he
    · cases he
  | [], _ :: _, _, _, _, _, hl, _, _ => by simp at hl
  | _ :: _, [], _, _, _, _, hl, _, _ => by simp at hl

end Go.Proofs.YtnfiihdebonadaaGreatDoor.Abs
namespace Go.Proofs.YtnfiihdebonadaaGreatDoor.Abs

/-- The places of a struct's fields; of an array's or a slice's elements. -/
def fieldPlaces (P : Program) (fs : Array Field) : Option (List (Nat × Nat)) := fs.toList.mapM fun f => (tySize P f.type).map fun n => (f.offset, n)

theorem run_places {P : Program} (w : World) : ∀ (fs : List Field) (pl : List (Nat × Nat)), fs.mapM (fun f => (tySize P f.type).map fun n => (f.offset, n)) = some pl →
    (fs.mapM (m := Sem) fun f => do pure (f.offset, ← sizeOf f.type)).run P w = .ok pl w
  | [], pl, h => by simp at h; subst h; rfl
  | f :: fs, pl, h => by
    simp only [List.mapM_cons, Option.bind_eq_bind, Option.pure_def] at h
    cases hn : tySize P f.type with
    | none => simp [hn] at h
    | some n =>
      cases hr : fs.mapM (fun f => (tySize P f.type).map fun n => (f.offset, n)) with
      | none => simp [hn, hr] at h
      | some pl' =>
        simp [hn, hr] at h; subst h
        have ih := run_places w fs pl' hr
        simp [List.mapM_cons, run_sizeOf hn, ih, -bind_pure_comp]

theorem build_struct_sound {P : Program} {W0 : World} {ρ : Ghost} {S : St} {w : World} {T : TypeId} {z : Value} {fs : Array Field} {pl : List (Nat × Nat)} {ps : List (Nat × Nat × AV)} {qs : Array (Nat × Value)} {cells : List AV}
    (h : SRel W0 ρ S w) (hu : P.underlying T = some (.struct fs)) (hz : tyZero P T = some z) (h1 : z.cells.toList.all (·.oneCell') = true) (hpl : fieldPlaces P fs = some pl)
    (hl : ps.length = qs.size) (hp : ∀ (j : Nat) (p : Nat × Nat × AV) (q : Nat × Value), ps[j]? = some p → qs[j]? = some q → pl[q.1]? = some (p.1, p.2.1) ∧ VRel ρ S w p.2.2 q.2)
    (he : fillA (z.cells.toList.map AV.ofValue1) ps = some cells) : Res P W0 ρ S w (Instr.build T qs) (.agg cells) S := by
  have hc : CRel ρ S w (z.cells.toList.map AV.ofValue1) z.cells := by simpa using CRel.ofValues (ρ := ρ) (S := S) (w := w) z.cells.toList h1
  have hpr := run_places (P := P) w fs.toList pl hpl
  obtain ⟨cs', g1, g2⟩ := fill_sound (fun i => pl[i]?) ps qs.toList _ cells z.cells hc (by simpa using hl) (fun j p q a b => hp j p q a (by simpa using b)) he
  refine .pure h (v := .agg cs') ?_ (.agg _ _ g2.1 g2.2.1 g2.2.2)
  have hpr' : (fs.mapM (m := Sem) fun f => do pure (f.offset, ← sizeOf f.type)).run P w = .ok pl.toArray w := by
    rw [Array.mapM_eq_mapM_toList]
    simp [hpr, -bind_pure_comp]
  simp [Instr.build, run_zero hz, run_underlying hu, hpr', g1, -bind_pure_comp]

theorem build_array_sound {P : Program} {W0 : World} {ρ : Ghost} {S : St} {w : World} {T e : TypeId} {n k : Nat} {z : Value} {ps : List (Nat × Nat × AV)} {qs : Array (Nat × Value)} {cells : List AV}
    (h : SRel W0 ρ S w) (hu : P.underlying T = some (.array n e)) (hk : tySize P e = some k) (hz : tyZero P T = some z) (h1 : z.cells.toList.all (·.oneCell') = true)
    (hl : ps.length = qs.size) (hp : ∀ (j : Nat) (p : Nat × Nat × AV) (q : Nat × Value), ps[j]? = some p → qs[j]? = some q → (q.1 * k, k) = (p.1, p.2.1) ∧ VRel ρ S w p.2.2 q.2)
    (he : fillA (z.cells.toList.map AV.ofValue1) ps = some cells) : Res P W0 ρ S w (Instr.build T qs) (.agg cells) S := by
  have hc : CRel ρ S w (z.cells.toList.map AV.ofValue1) z.cells := by simpa using CRel.ofValues (ρ := ρ) (S := S) (w := w) z.cells.toList h1
  obtain ⟨cs', g1, g2⟩ := fill_sound (fun i => some (i * k, k)) ps qs.toList _ cells z.cells hc (by simpa using hl) (fun j p q a b => by
    obtain ⟨r1, r2⟩ := hp j p q a (by simpa using b)
    exact ⟨congrArg some r1, r2⟩) he
  refine .pure h (v := .agg cs') ?_ (.agg _ _ g2.1 g2.2.1 g2.2.2)
  simp [Instr.build, run_zero hz, run_underlying hu, run_sizeOf hk, g1]

/-- Zero cells, again and again. -/
def repZ (z : List Value) (n : Nat) : List Value := (List.replicate n z).flatten

theorem repZ_get (z : List Value) (hz : 0 < z.length) : ∀ (n j : Nat), j < n * z.length → (repZ z n)[j]? = z[j % z.length]?
  | 0, j, h => by simp at h
  | n + 1, j, h => by
    have hx : repZ z (n + 1) = z ++ repZ z n := by simp [repZ, List.replicate_succ]
    rw [hx]
    by_cases hj : j < z.length
    · rw [List.getElem?_append_left hj, Nat.mod_eq_of_lt hj]
    · rw [List.getElem?_append_right (by omega), repZ_get z hz n (j - z.length) (by rw [Nat.add_mul] at h; omega), ← Nat.mod_eq_sub_mod (by omega)]

theorem repZ_length (z : List Value) (n : Nat) : (repZ z n).length = n * z.length := by simp [repZ, List.length_flatten]

theorem zeros_eq (z : Array Value) (hz : 0 < z.size) (n : Nat) : (Array.range (n * z.size)).map (fun i => z[i % z.size]!) = (repZ z.toList n).toArray := by
  apply Array.ext_getElem?
  intro j
  by_cases hj : j < n * z.size
  · have := repZ_get z.toList (by simpa using hz) n j (by simpa using hj)
    have hm : j % z.size < z.size := Nat.mod_lt _ hz
    simp only [Array.length_toList] at this
    simp [hj, this, hm, getElem!_pos]
  · rw [Array.getElem?_eq_none (by simp; omega), Array.getElem?_eq_none (by simp [repZ_length]; omega)]

theorem bslice_sound {P : Program} {W0 : World} {ρ : Ghost} {S : St} {w : World} {T e : TypeId} {n k : Nat} {z : Value} {ps : List (Nat × Nat × AV)} {qs : Array (Nat × Value)} {cells : List AV}
    (h : SRel W0 ρ S w) (hu : P.underlying T = some (.slice e)) (hk : tySize P e = some k) (hz : tyZero P e = some z) (hzk : z.cells.size = k) (hk0 : 0 < k) (hbig : n * k ≤ 2 ^ 24) (h1 : z.cells.toList.all (·.oneCell') = true)
    (hl : ps.length = qs.size) (hp : ∀ (j : Nat) (p : Nat × Nat × AV) (q : Nat × Value), ps[j]? = some p → qs[j]? = some q → (q.1 * k, k) = (p.1, p.2.1) ∧ VRel ρ S w p.2.2 q.2)
    (he : fillA ((repZ z.cells.toList n).map AV.ofValue1) ps = some cells) : Res P W0 ρ S w (Instr.buildSlice T n qs) (.list true n cells) S := by
  have hall : (repZ z.cells.toList n).all (·.oneCell') = true := by
    rw [List.all_eq_true] at h1 ⊢
    intro x hx
    simp only [repZ, List.mem_flatten, List.mem_replicate] at hx
    obtain ⟨l, ⟨_, rfl⟩, hx⟩ := hx
    exact h1 x hx
  have hc := CRel.ofValues (ρ := ρ) (S := S) (w := w) _ hall
  obtain ⟨cs', g1, g2⟩ := fill_sound (fun i => some (i * k, k)) ps qs.toList _ cells _ hc (by simpa using hl) (fun j p q a b => by
    obtain ⟨r1, r2⟩ := hp j p q a (by simpa using b)
    exact ⟨congrArg some r1, r2⟩) he
  have hz0 : (Array.range (n * k)).map (fun i => z.cells[i % z.cells.size]!) = (repZ z.cells.toList n).toArray := by
    rw [← hzk]; exact zeros_eq z.cells (by omega) n
  -- the new row belongs to nobody: it is read alone
  have hal := h.alloc cs' e (0, 0) (Nat.le_refl _) [] (by simp) (fun j hj => by simp at hj) (fun j x hx => by simp at hx)
  have hext : Ext ρ S w ρ S (w.alloc (.cells cs' e)) := by
    refine ⟨by simp, fun B c e' f hB => ⟨c, f, ?_, rfl⟩, fun B hB _ => RowKit.Below.heap_alloc w _ B hB, fun _ _ hp => hp, Nat.le_refl _, fun _ => Nat.le_refl _, fun _ _ hp _ => hp⟩
    rw [RowKit.Below.heap_alloc w _ B (by
      rcases Nat.lt_or_ge B w.heap.size with h' | h'
      · exact h'
      · rw [Array.getElem?_eq_none h'] at hB; cases hB)]
    exact hB
  have hsr : SRel W0 ρ S (w.alloc (.cells cs' e)) := by
    refine ⟨⟨h.below.os, h.below.tape, h.below.output, Nat.le_trans h.below.size (by simp), fun j hj => ?_⟩, h.new, h.dom, fun i B b hr => Nat.lt_of_lt_of_le (h.lt i B b hr) (by simp), h.inj, fun i B b hr => (h.blk i B b hr).ext hext (RowKit.Below.heap_alloc w _ B (h.lt i B b hr)), h.wf⟩
    rw [RowKit.Below.heap_alloc w _ j (Nat.lt_of_lt_of_le hj h.below.size)]
    exact h.below.block j hj
  refine ⟨.slice (some ⟨w.heap.size, 0, none⟩) n n, w.alloc (.cells cs' e), ρ, ?_, .list true n cells _ n (fun j => cs'.getD j Go.undef) (Nat.le_refl _) (fun _ => rfl) (.inr ⟨w.heap.size, 0, rfl, ?_, fun j hj => ?_⟩) (fun j hj => g2.2.1 j (by rw [← g2.1]; exact hj)) (fun j x hx => (g2.2.2 j x hx).ext hext), hsr, hext⟩
  · have hb : ¬ (2 ^ 24 < n * k) := by omega
    by_cases hn : n * k = 0
    · have hn0 : n = 0 := by
        rcases Nat.mul_eq_zero.1 hn with h' | h'
        · exact h'
        · omega
      subst hn0
      have hz' : (repZ z.cells.toList 0) = [] := by simp [repZ]
      rw [hz'] at g1
      have ha : ∀ f : Nat → Value, Array.map f (Array.range 0) = #[] := fun f => by apply Array.ext <;> simp
      simp [Instr.buildSlice, run_underlying hu, run_sizeOf hk, ha, g1, Go.newRow]
    · simp only [Instr.buildSlice, Sem.run_bind, run_underlying hu, Result.andThen_ok, run_sizeOf hk]
      rw [if_neg (by omega), if_neg hn]
      simp only [Sem.run_bind, run_zero hz, Result.andThen_ok, Sem.run_pure, hz0, g1]
      simp [Go.newRow]
  · rintro ⟨i, b, hb⟩
    have := h.lt i _ _ hb
    omega
  · have := heap_alloc_new w (.cells cs' e)
    rw [Nat.zero_add]
    exact cell_eq this (by rw [← g2.1]; exact hj)

end Go.Proofs.YtnfiihdebonadaaGreatDoor.Abs
namespace Go.Proofs.YtnfiihdebonadaaGreatDoor.Abs
section
variable {P : Program} {W0 : World} {ρ : Ghost} {S : St} {w : World}

def unA (op : UnOp) (x : AV) : Option AV :=
  match op, x with
  | .neg, .int k n => some (.int k (k.wrap (0 - n)))
  | .not, .bool b => some (.bool !b)
  | .xor, .int k n => some (.int k (bitsI .xor k (if k.signed then -1 else k.max) n))
  | _, _ => none

theorem un_sound (h : SRel W0 ρ S w) {op : UnOp} {x r : AV} {v : Value} (hx : VRel ρ S w x v) (he : unA op x = some r) : Res P W0 ρ S w (Op.unary op v) r S := by
  cases hx with
  | int k n =>
    cases op <;> simp only [unA] at he
    case neg => cases he; exact .pure h rfl (.int _ _)
    case xor => cases he; exact .pure h rfl (.int _ _)
    all_goals cases he
  | bool b =>
    cases op <;> simp only [unA] at he
    case not => cases he; exact .pure h rfl (.bool _)
    all_goals cases he
  | _ => cases op <;> simp [unA] at he

def faddrA (S : St) (off : Nat) : AV → Option AV
  | .ptr id ver o => if (S.get id).1 = ver then some (.ptr id ver (o + off)) else none
  | .eptr cells o => some (.eptr cells (o + off))
  | _ => none

theorem faddr_sound (h : SRel W0 ρ S w) {T : TypeId} {fs : Array Field} {i n : Nat} {f : Field} {x r : AV} {v : Value} (hu : P.underlying T = some (.struct fs)) (hf : fs[i]? = some f) (hn : tySize P f.type = some (n + 1))
    (hx : VRel ρ S w x v) (he : faddrA S f.offset x = some r) :
    Res P W0 ρ S w (Instr.fieldAt T v i) r S := by
  have run : ∀ B o, (Instr.fieldAt T (.pointer (some ⟨B, o, none⟩)) i).run P w = .ok (.pointer (some ⟨B, o + f.offset, none⟩)) w := by
    intro B o
    simp [Instr.fieldAt, run_underlying hu, hf, Instr.sureAddr, fieldPlace, run_sizeOf hn, addr_add]
  cases hx with
  | ptr id ver off v h1 hid hver hp =>
    simp only [faddrA] at he
    split at he
    · rename_i hv
      cases he
      obtain ⟨B, b, hr, rfl⟩ := hp hv
      exact .pure h (run B (b + off)) (.ptr _ _ _ _ rfl hid hver fun _ => ⟨B, b, hr, by rw [Nat.add_assoc]⟩)
    · cases he
  | eptr cells off B o cs hc h1 hh =>
    cases he
    exact .pure h (run B (o + off)) (by rw [Nat.add_assoc]; exact .eptr _ _ _ _ cs hc h1 hh)
  | _ => simp [faddrA] at he

/-- A part of an aggregate. -/
theorem part_sound {T : TypeId} {n : Nat} {ag : Bool} {cells : List AV} {cs : Array Value} {off : Nat} {r : AV} (hc : CRel ρ S w cells cs) (hT : tyAgg P T = some ag) (hn : tySize P T = some n)
    (he : sliceA cells off n ag = some r) : ∃ u, (part T cs off).run P w = .ok u w ∧ VRel ρ S w r u := by
  obtain ⟨c1, c2, c3⟩ := hc
  unfold sliceA at he
  cases ag with
  | true =>
    simp only [if_true] at he
    split at he
    · rename_i hle
      cases he
      refine ⟨.agg (cs.extract off (off + n)), by simp [part, run_isAgg hT, run_sizeOf hn], .agg _ _ (by simp; omega) (fun j hj => ?_) fun j x hx => ?_⟩
      · simp at hj
        have := c2 (off + j) (by omega)
        have h2 : off + j < cs.size := by omega
        simpa [hj, h2, Array.getElem?_extract] using this
      · rw [List.getElem?_take] at hx
        split at hx
        · rename_i hj
          rw [List.getElem?_drop] at hx
          have := c3 _ x hx
          have h2 : off + j < cs.size := by omega
          have h3 : j < min (off + n) cs.size - off := by omega
          simpa [h2, h3, Array.getElem?_extract] using this
        · cases hx
    · cases he
  | false =>
    simp only [Bool.false_eq_true, if_false] at he
    have hlt := (List.getElem?_eq_some_iff.1 he).1
    have h2 : off < cs.size := by omega
    refine ⟨cs.getD off Go.undef, ?_, c3 off r he⟩
    simp [part, run_isAgg hT, h2]

theorem VRel.crel_agg {cells : List AV} {v : Value} (h : VRel ρ S w (.agg cells) v) : ∃ cs, v = .agg cs ∧ CRel ρ S w cells cs := by
  cases h with
  | agg cells cs hl h1 h => exact ⟨cs, rfl, hl, h1, h⟩

theorem field_sound (h : SRel W0 ρ S w) {T : TypeId} {fs : Array Field} {i n : Nat} {ag : Bool} {f : Field} {cells : List AV} {r : AV} {v : Value} (hu : P.underlying T = some (.struct fs)) (hf : fs[i]? = some f)
    (hT : tyAgg P f.type = some ag) (hn : tySize P f.type = some n) (hx : VRel ρ S w (.agg cells) v) (he : sliceA cells f.offset n ag = some r) : Res P W0 ρ S w (Instr.field T v i) r S := by
  obtain ⟨cs, rfl, hc⟩ := hx.crel_agg
  obtain ⟨u, g1, g2⟩ := part_sound (P := P) hc hT hn he
  exact .pure h (by simp [Instr.field, run_underlying hu, hf, asAgg, g1]) g2

theorem extract_sound (h : SRel W0 ρ S w) {i : Nat} {xs : List AV} {r : AV} {v : Value} (hx : VRel ρ S w (.tup xs) v) (he : xs[i]? = some r) : Res P W0 ρ S w (Instr.extract v i) r S := by
  cases hx with
  | tup cells cs hl hh =>
    have hlt := (List.getElem?_eq_some_iff.1 he).1
    have h2 : i < cs.size := by omega
    have h3 := hh i r he
    refine .pure h (v := cs.getD i Go.undef) ?_ h3
    simp [Instr.extract, h2]

/-- An index in its bounds. -/
def idxIn (n : Nat) : AV → Option Nat
  | .int _ i => if 0 ≤ i ∧ i < n then some i.toNat else none
  | _ => none

def iaddrA (S : St) (k : Nat) (x i : AV) : Option AV :=
  match x with
  | .list _ n cells => (idxIn n i).bind fun i => if i * k < cells.length then some (.eptr cells (i * k)) else none
  | .ref id ver k' off len => if (S.get id).1 = ver ∧ k' = k then (idxIn len i).map fun i => .ptr id ver (off + i * k) else none
  | _ => none

theorem idxIn_spec {n : Nat} {x : AV} {i : Nat} {v : Value} (hx : VRel ρ S w x v) (h : idxIn n x = some i) : ∃ k j, v = .int k j ∧ 0 ≤ j ∧ j < (n : Int) ∧ i = j.toNat := by
  cases hx with
  | int k j =>
    simp only [idxIn] at h
    split at h
    · rename_i hj; cases h; exact ⟨k, j, rfl, hj.1, hj.2, rfl⟩
    · cases h
  | _ => simp [idxIn] at h

theorem iaddr_sound (h : SRel W0 ρ S w) {T e : TypeId} {k : Nat} {x i r : AV} {v u : Value} (hu : P.underlying T = some (.slice e)) (hk : tySize P e = some k) (hx : VRel ρ S w x v) (hi : VRel ρ S w i u)
    (he : iaddrA S k x i = some r) : Res P W0 ρ S w (Instr.indexAt T v u) r S := by
  cases hx with
  | list fl n cells addr cap cs hn hfl ha h1 hh =>
    simp only [iaddrA, Option.bind_eq_some_iff] at he
    obtain ⟨j, hj, he⟩ := he
    split at he
    · rename_i hlt
      cases he
      obtain ⟨ki, jj, rfl, j0, j1, rfl⟩ := idxIn_spec hi hj
      rcases ha with ha | ⟨B, o, rfl, hp, hc⟩
      · subst ha; simp at hlt
      · refine .pure h (v := .pointer (some ⟨B, o + jj.toNat * k, none⟩)) ?_ (.eptr _ _ _ _ cs (.inr ⟨hp, hc⟩) h1 hh)
        simp [Instr.indexAt, asIntOf, run_underlying hu, run_sizeOf hk, j0, j1, addr_add]
    · cases he
  | ref id ver k' off len v h1 hid hver hp =>
    simp only [iaddrA] at he
    split at he
    · rename_i hv
      simp only [Option.map_eq_some_iff] at he
      obtain ⟨j, hj, rfl⟩ := he
      obtain ⟨ki, jj, rfl, j0, j1, rfl⟩ := idxIn_spec hi hj
      obtain ⟨addr, cap, rfl, hlc, hcap⟩ := hp hv.1
      rcases hcap with hcap | ⟨B, b, c, e', f, hr, rfl, _, _⟩
      · omega
      · refine .pure h (v := .pointer (some ⟨B, b + (off + jj.toNat * k), none⟩)) ?_ (.ptr _ _ _ _ rfl hid hver fun _ => ⟨B, b, hr, rfl⟩)
        simp [Instr.indexAt, asIntOf, run_underlying hu, run_sizeOf hk, j0, j1, addr_add, Nat.add_assoc]
    · cases he
  | _ => simp [iaddrA] at he

/-- The address of an array's element. -/
def iaddrArr (S : St) (n k : Nat) (x i : AV) : Option AV :=
  match x with
  | .ptr id ver off => if (S.get id).1 = ver then (idxIn n i).map fun i => .ptr id ver (off + i * k) else none
  | .eptr cells off => (idxIn n i).map fun i => .eptr cells (off + i * k)
  | _ => none

theorem iaddrArr_sound (h : SRel W0 ρ S w) {T e : TypeId} {n k : Nat} {x i r : AV} {v u : Value} (hu : P.underlying T = some (.array n e)) (hk : tySize P e = some k) (hx : VRel ρ S w x v) (hi : VRel ρ S w i u)
    (he : iaddrArr S n k x i = some r) : Res P W0 ρ S w (Instr.indexAt T v u) r S := by
  have run : ∀ B o (ki : IntKind) (jj : Int), 0 ≤ jj → jj < (n : Int) → (Instr.indexAt T (.pointer (some ⟨B, o, none⟩)) (.int ki jj)).run P w = .ok (.pointer (some ⟨B, o + jj.toNat * k, none⟩)) w := by
    intro B o ki jj j0 j1
    simp [Instr.indexAt, asIntOf, run_underlying hu, Instr.sureAddr, run_sizeOf hk, j0, j1, addr_add]
  cases hx with
  | ptr id ver off v h1 hid hver hp =>
    simp only [iaddrArr] at he
    split at he
    · rename_i hv
      simp only [Option.map_eq_some_iff] at he
      obtain ⟨j, hj, rfl⟩ := he
      obtain ⟨ki, jj, rfl, j0, j1, rfl⟩ := idxIn_spec hi hj
      obtain ⟨B, b, hr, rfl⟩ := hp hv
      exact .pure h (run B _ ki jj j0 j1) (.ptr _ _ _ _ rfl hid hver fun _ => ⟨B, b, hr, by rw [Nat.add_assoc]⟩)
    · cases he
  | eptr cells off B o cs hc h1 hh =>
    simp only [iaddrArr, Option.map_eq_some_iff] at he
    obtain ⟨j, hj, rfl⟩ := he
    obtain ⟨ki, jj, rfl, j0, j1, rfl⟩ := idxIn_spec hi hj
    exact .pure h (run B _ ki jj j0 j1) (by rw [Nat.add_assoc]; exact .eptr _ _ _ _ cs hc h1 hh)
  | _ => simp [iaddrArr] at he

/-- A byte of a string; an element of an array. -/
def idxA (x i : AV) : Option AV :=
  match x with
  | .str s => (idxIn s.length i).bind fun i => (s[i]?).map fun b => .int .u8 b.toNat
  | _ => none

theorem idx_sound (h : SRel W0 ρ S w) {T : TypeId} {x i r : AV} {v u : Value} (hu : P.underlying T = some .string) (hx : VRel ρ S w x v) (hi : VRel ρ S w i u) (he : idxA x i = some r) : Res P W0 ρ S w (Instr.index T v u) r S := by
  cases hx with
  | str s =>
    simp only [idxA, Option.bind_eq_some_iff, Option.map_eq_some_iff] at he
    obtain ⟨j, hj, b, hb, rfl⟩ := he
    obtain ⟨ki, jj, rfl, j0, j1, rfl⟩ := idxIn_spec hi hj
    have hlt : jj.toNat < s.length := (List.getElem?_eq_some_iff.1 hb).1
    have hg : (⟨s.toArray⟩ : ByteArray)[jj.toNat]? = some b := by
      have hsz : jj.toNat < (⟨s.toArray⟩ : ByteArray).size := by simpa [ByteArray.size] using hlt
      rw [getElem?_pos (⟨s.toArray⟩ : ByteArray) jj.toNat hsz]
      have : s[jj.toNat] = b := (List.getElem?_eq_some_iff.1 hb).2
      rw [← this]; rfl
    refine .pure h (v := .int .u8 b.toNat) ?_ (.int _ _)
    have hj2 : jj < (ByteArray.size ⟨s.toArray⟩ : Int) := by simpa [ByteArray.size] using j1
    simp [Instr.index, asIntOf, run_underlying hu, j0, hg]
  | _ => simp [idxA] at he

theorem idxArr_sound (h : SRel W0 ρ S w) {T e : TypeId} {n k : Nat} {ag : Bool} {cells : List AV} {i r : AV} {v u : Value} {j : Nat} (hu : P.underlying T = some (.array n e)) (hT : tyAgg P e = some ag) (hk : tySize P e = some k)
    (hx : VRel ρ S w (.agg cells) v) (hi : VRel ρ S w i u) (hj : idxIn n i = some j) (he : sliceA cells (j * k) k ag = some r) : Res P W0 ρ S w (Instr.index T v u) r S := by
  obtain ⟨cs, rfl, hc⟩ := hx.crel_agg
  obtain ⟨ki, jj, rfl, j0, j1, rfl⟩ := idxIn_spec hi hj
  obtain ⟨u, g1, g2⟩ := part_sound (P := P) hc hT hk he
  exact .pure h (by simp [Instr.index, asIntOf, run_underlying hu, j0, j1, run_sizeOf hk, g1]) g2

end
end Go.Proofs.YtnfiihdebonadaaGreatDoor.Abs
