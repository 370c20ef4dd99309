import Derived.Test.YtnfiihdebonadaaGreatDoorZSim
set_option linter.unusedSimpArgs false
set_option linter.unusedVariables false
set_option linter.unusedSectionVars false
namespace Go.Proofs.YtnfiihdebonadaaGreatDoor.Abs
universe u

/-- (So that a step of the walk is kept as a step.) -/
theorem nr {α : Sort u} {a b : α} (h : a = b) : a = b := h

/-- A branch. -/
def Br (t : Bool) (F G : Env → St → Prop) (e : Env) (S : St) : Prop := (t = true → F e S) ∧ (t = false → G e S)
theorem Br_true (F G : Env → St → Prop) (e : Env) (S : St) : Br true F G e S = F e S := by simp [Br]
theorem Br_false (F G : Env → St → Prop) (e : Env) (S : St) : Br false F G e S = G e S := by simp [Br]
theorem Br_not (t : Bool) (F G : Env → St → Prop) (e : Env) (S : St) : Br (!t) F G e S = Br t G F e S := by cases t <;> simp [Br]

def condK (v : AV) (F G : Env → St → Prop) (e : Env) (S : St) : Prop :=
  match v with
  | .bool t => Br t F G e S
  | _ => False
theorem condK_bool (t : Bool) (F G : Env → St → Prop) (e : Env) (S : St) : condK (.bool t) F G e S = Br t F G e S := nr rfl

def grdK (v : AV) (b : Bool) (F G : Env → St → Prop) (e : Env) (S : St) : Prop :=
  match gdec v b with
  | some true => F e S
  | some false => G e S
  | none => False
theorem grdK_true (t : Bool) (F G : Env → St → Prop) (e : Env) (S : St) : grdK (.bool t) true F G e S = Br t F G e S := by cases t <;> simp [grdK, gdec, Br]
theorem grdK_false (t : Bool) (F G : Env → St → Prop) (e : Env) (S : St) : grdK (.bool t) false F G e S = Br t G F e S := by cases t <;> simp [grdK, gdec, Br]
theorem grdK_tup (l : List AV) (b : Bool) (F G : Env → St → Prop) (e : Env) (S : St) : grdK (.tup l) b F G e S = G e S := nr rfl

/-- What goes on behind an operation that was not done. -/
def skipK (d : Option Nat) (K : Env → St → Prop) (e : Env) (S : St) : Prop := K (setD e d (.tup [])) S
theorem skipK_eq (d : Option Nat) (K : Env → St → Prop) (e : Env) (S : St) : skipK d K e S = K (setD e d (.tup [])) S := nr rfl

/-- What goes on behind an operation's value. -/
def putK (d : Option Nat) (K : Env → St → Prop) (e : Env) (p : AV × St) : Prop := K (setD e d p.1) p.2
theorem putK_eq (d : Option Nat) (K : Env → St → Prop) (e : Env) (x : AV) (S : St) : putK d K e (x, S) = K (setD e d x) S := nr rfl

theorem setD_some (e : Env) (d : Nat) (x : AV) : setD e (some d) x = e.set d x := nr rfl
theorem setD_none (e : Env) (x : AV) : setD e none x = e := nr rfl
theorem set_at (e : Env) (d : Nat) (x : AV) (t : Nat) : (e.set d x) t = if t = d then x else e t := nr rfl
theorem evA_tmp (e : Env) (t : Nat) : evA e (.tmp t) = e t := nr rfl
theorem evA_const (e : Env) (v : Value) : evA e (.const v) = AV.ofValue v := nr rfl
theorem evA_int (e : Env) (k : IntKind) (n : Int) : evA e (.const (.int k n)) = .int k n := nr rfl
theorem evA_bool (e : Env) (b : Bool) : evA e (.const (.bool b)) = .bool b := nr rfl
theorem evA_str (e : Env) (s : ByteArray) : evA e (.const (.string s)) = .str s.data.toList := nr rfl
theorem evA_nilS (e : Env) : evA e (.const (.slice none 0 0)) = .list true 0 [] := nr rfl
theorem evA_nilP (e : Env) : evA e (.const (.pointer none)) = .val (.pointer none) := nr rfl
theorem evA_nilI (e : Env) : evA e (.const .nilIface) = .val .nilIface := nr rfl
theorem evA_global (e : Env) (g : Nat) : evA e (.global g) = .val (.pointer (some ⟨g, 0, none⟩)) := nr rfl
theorem evA_func (e : Env) (f : Nat) : evA e (.func f) = .val (.func (.func f) #[] #[]) := nr rfl
theorem evA_agg (e : Env) (cs : Array Value) : evA e (.const (.agg cs)) = .agg (cs.toList.map AV.ofValue1) := nr rfl

section
variable {P : Program} {W0 : World} {S0 : St} {Q : AExit → Env → St → Prop} {K : Env → St → Prop} {e : Env} {S : St}

theorem w_skip : awp P W0 S0 .skip Q e S = Q .normal e S := nr rfl
theorem w_ret : awp P W0 S0 .ret Q e S = Q .ret e S := nr rfl
theorem w_exit {id : Nat} : awp P W0 S0 (.exit id) Q e S = Q (.exit id) e S := nr rfl
theorem w_region {ops : List AOper} : awp P W0 S0 (.region ops) Q e S = awpOps P W0 ops (Q .normal) e S := nr rfl
theorem w_seq {a b : ACode} : awp P W0 S0 (.seq a b) Q e S = awp P W0 S0 a (thenA (awp P W0 S0 b Q) Q) e S := nr rfl
theorem w_block {id : Nat} {b : ACode} : awp P W0 S0 (.block id b) Q e S = awp P W0 S0 b (inBlockA id Q) e S := nr rfl
theorem w_cond {c : Operand} {x y : ACode} : awp P W0 S0 (.cond c x y) Q e S = condK (evA e c) (awp P W0 S0 x Q) (awp P W0 S0 y Q) e S := by
  simp only [awp, condK, Br]
  cases evA e c <;> rfl

theorem t_normal : thenA K Q .normal = K := nr rfl
theorem t_ret : thenA K Q .ret = Q .ret := nr rfl
theorem t_exit {id : Nat} : thenA K Q (.exit id) = Q (.exit id) := nr rfl
theorem b_normal {id : Nat} : inBlockA id Q .normal = Q .normal := nr rfl
theorem b_ret {id : Nat} : inBlockA id Q .ret = Q .ret := nr rfl
theorem b_exit {id i : Nat} : inBlockA id Q (.exit i) e S = if i = id then Q .normal e S else Q (.exit i) e S := nr rfl
theorem b_exit_eq {id : Nat} : inBlockA id Q (.exit id) = Q .normal := by funext e S; simp [inBlockA]

theorem o_nil : awpOps P W0 [] K e S = K e S := nr rfl
theorem o_cons {d : Option Nat} {op : AOp} {r : List AOper} : awpOps P W0 (⟨d, op, none⟩ :: r) K e S = aop P W0 ⟨d, op, none⟩ (awpOps P W0 r K) e S := nr rfl
theorem o_guard {d : Option Nat} {op : AOp} {t : Nat} {b : Bool} {r : List AOper} : awpOps P W0 (⟨d, op, some (t, b)⟩ :: r) K e S = grdK (e t) b (aop P W0 ⟨d, op, none⟩ (awpOps P W0 r K)) (skipK d (awpOps P W0 r K)) e S := by
  simp only [awpOps, grdK]
  cases gdec (e t) b with
  | none => rfl
  | some c => cases c <;> rfl

/-- What goes on behind an operation's value; behind a store; behind a call; behind a box. -/
def contK (d : Option Nat) (K : Env → St → Prop) (e : Env) (S : St) (r : AV) : Prop := K (setD e d r) S
theorem contK_eq (d : Option Nat) (r : AV) : contK d K e S r = K (setD e d r) S := nr rfl
def contS (d : Option Nat) (K : Env → St → Prop) (e : Env) (S' : St) : Prop := K (setD e d .undef) S'
theorem contS_eq (d : Option Nat) (S' : St) : contS d K e S' = K (setD e d .undef) S' := nr rfl
def callK (d : Option Nat) (K : Env → St → Prop) (e : Env) (r : AV) (S' : St) : Prop := K (setD e d r) S'
theorem callK_eq (d : Option Nat) (r : AV) (S' : St) : callK d K e r S' = K (setD e d r) S' := nr rfl
def boxK (d : Option Nat) (K : Env → St → Prop) (e : Env) (S : St) (cs : List AV) : Prop := K (setD e d (.ptr S.len 0 0)) (S.push (.row cs))
theorem boxK_eq (d : Option Nat) (cs : List AV) : boxK d K e S cs = K (setD e d (.ptr S.len 0 0)) (S.push (.row cs)) := nr rfl
def strO (x : AV) (f : List UInt8 → AV) : Option AV := match x with | .str s => some (f s) | _ => none
theorem strO_str (s : List UInt8) (f : List UInt8 → AV) : strO (.str s) f = some (f s) := nr rfl
def tupO (x : AV) (i : Nat) : Option AV := match x with | .tup xs => xs[i]? | _ => none
theorem tupO_tup (xs : List AV) (i : Nat) : tupO (.tup xs) i = xs[i]? := nr rfl
def aggO (x : AV) (off n : Nat) (ag : Bool) : Option AV := match x with | .agg cs => sliceA cs off n ag | _ => none
theorem aggO_agg (cs : List AV) (off n : Nat) (ag : Bool) : aggO (.agg cs) off n ag = sliceA cs off n ag := nr rfl

def intO : AV → Option AV
  | .int _ n => some (.str (Utf8.encode n).data.toList)
  | _ => none
def iterK {α : Type} (b : Nat × Blk) (ver : Nat) (f : List UInt8 → Nat → Option α) : Option α :=
  if b.1 = ver then match b.2 with
    | .siter s pos => f s pos
    | _ => none
  else none
theorem a_call {d : Option Nat} {f : FuncId} {args : List Operand} : aop P W0 ⟨d, .call f args, none⟩ K e S = CallsA P W0 f (args.map (evA e)) S (fun r S' => K (setD e d r) S') := nr rfl
theorem a_callv {d : Option Nat} {fv : Operand} {args : List Operand} : aop P W0 ⟨d, .callv fv args, none⟩ K e S = optK (cloOf (evA e fv)) fun p => callable P p.1 = true ∧ CallsA P W0 p.1 (p.2.1 ++ args.map (evA e) ++ p.2.2) S (callK d K e) := nr rfl
theorem a_mv {d : Option Nat} {x : Operand} : aop P W0 ⟨d, .mv x, none⟩ K e S = K (setD e d (evA e x)) S := nr rfl
def pickA (c a b : AV) : AV := match c with | .bool t => if t = true then a else b | _ => .undef
theorem pick_true (a b : AV) : pickA (.bool true) a b = a := nr rfl
theorem pick_false (a b : AV) : pickA (.bool false) a b = b := nr rfl
theorem pick_bool (c a b : Bool) : pickA (.bool c) (.bool a) (.bool b) = .bool (if c = true then a else b) := by cases c <;> rfl
def pickK (c a b : AV) (F : AV → Prop) : Prop := match c with | .bool t => F (if t = true then a else b) | _ => False
/-- A case that is not a branch of the code's own. -/
def IfK (c A B : Prop) : Prop := (c → A) ∧ (¬ c → B)
theorem IfK_true (A B : Prop) : IfK True A B = A := by simp [IfK]
theorem IfK_false (A B : Prop) : IfK False A B = B := by simp [IfK]
theorem IfK_tt (A B : Prop) : IfK (true = true) A B = A := by simp [IfK]
theorem IfK_ft (A B : Prop) : IfK (false = true) A B = B := by simp [IfK]
theorem IfK_not (t : Bool) (A B : Prop) : IfK ((!t) = true) A B = IfK (t = true) B A := by cases t <;> simp [IfK]
theorem IfK_decd {p : Prop} {_ : Decidable p} (A B : Prop) : IfK (decide p = true) A B = IfK p A B := by simp [IfK]
theorem pickK_bool (t : Bool) (a b : AV) (F : AV → Prop) : pickK (.bool t) a b F = IfK (t = true) (F a) (F b) := by cases t <;> simp [pickK, IfK]
theorem a_pick {d : Option Nat} {c a b : Operand} : aop P W0 ⟨d, .pick c a b, none⟩ K e S = pickK (evA e c) (evA e a) (evA e b) (contK d K e S) := by
  simp only [aop, ev, pickK]; cases evA e c <;> rfl
theorem a_alloc {d : Option Nat} {z : List Value} : aop P W0 ⟨d, .alloc z, none⟩ K e S = K (setD e d (.ptr S.len 0 0)) (S.push (.row (z.map AV.ofValue1))) := nr rfl
theorem a_box {d : Option Nat} {x : Operand} : aop P W0 ⟨d, .box x, none⟩ K e S = optK (evA e x).cellsOf (boxK d K e S) := by
  simp only [aop, ev]; cases (evA e x).cellsOf <;> rfl
theorem a_build {d : Option Nat} {z : List Value} {ps : List (Nat × Nat × Operand)} : aop P W0 ⟨d, .build z ps, none⟩ K e S = optK ((fillA (z.map AV.ofValue1) (evParts e ps)).map AV.agg) (contK d K e S) := by
  simp only [aop, ev]; cases fillA (z.map AV.ofValue1) (evParts e ps) <;> rfl
theorem a_bslice {d : Option Nat} {n : Nat} {z : List Value} {ps : List (Nat × Nat × Operand)} : aop P W0 ⟨d, .bslice n z ps, none⟩ K e S = optK ((fillA (z.map AV.ofValue1) (evParts e ps)).map (AV.list true n)) (contK d K e S) := by
  simp only [aop, ev]; cases fillA (z.map AV.ofValue1) (evParts e ps) <;> rfl
theorem a_load {d : Option Nat} {n : Nat} {ag : Bool} {x : Operand} : aop P W0 ⟨d, .load n ag x, none⟩ K e S = optK (loadA S n ag (evA e x)) (contK d K e S) := by
  simp only [aop, ev]; cases loadA S n ag (evA e x) <;> rfl
theorem a_store {d : Option Nat} {n : Nat} {x y : Operand} : aop P W0 ⟨d, .store n x y, none⟩ K e S = optK (storeA S n (evA e x) (evA e y)) (contS d K e) := by
  simp only [aop, ev]; cases storeA S n (evA e x) (evA e y) <;> rfl
theorem a_nilchk {d : Option Nat} {x : Operand} : aop P W0 ⟨d, .nilchk x, none⟩ K e S = optK (nilchkA S (evA e x)) (contK d K e S) := by
  simp only [aop, ev]; cases nilchkA S (evA e x) <;> rfl
theorem a_bin {d : Option Nat} {kd : EqK} {op : BinOp} {x y : Operand} : aop P W0 ⟨d, .bin kd op x y, none⟩ K e S = optK (binA S kd op (evA e x) (evA e y)) (contK d K e S) := by
  simp only [aop, ev]; cases binA S kd op (evA e x) (evA e y) <;> rfl
theorem a_un {d : Option Nat} {op : UnOp} {x : Operand} : aop P W0 ⟨d, .un op x, none⟩ K e S = optK (unA op (evA e x)) (contK d K e S) := by
  simp only [aop, ev]; cases unA op (evA e x) <;> rfl
theorem a_convI {d : Option Nat} {k : IntKind} {x : Operand} : aop P W0 ⟨d, .convI k x, none⟩ K e S = optK (convIA k (evA e x)) (contK d K e S) := by
  simp only [aop, ev]; cases convIA k (evA e x) <;> rfl
theorem a_convIS {d : Option Nat} {x : Operand} : aop P W0 ⟨d, .convIS x, none⟩ K e S = optK (intO (evA e x)) (contK d K e S) := by
  simp only [aop, ev, intO]; cases evA e x <;> rfl
theorem a_rangeS {d : Option Nat} {x : Operand} : aop P W0 ⟨d, .rangeS x, none⟩ K e S = optK (rangeA S (evA e x)) (putK d K e) := nr rfl
theorem a_nextS {d : Option Nat} {x : Operand} : aop P W0 ⟨d, .nextS x, none⟩ K e S = optK (nextA S (evA e x)) (putK d K e) := nr rfl
theorem intO_int (k : IntKind) (n : Int) : intO (.int k n) = some (.str (Utf8.encode n).data.toList) := nr rfl
theorem range_str (S : St) (s : List UInt8) : rangeA S (.str s) = some (.ptr S.len 0 0, S.push (.siter s 0)) := nr rfl
theorem next_ptr (S : St) (id ver : Nat) : nextA S (.ptr id ver 0) = iterK (S.get id) ver fun s pos => if pos < s.length then some (.tup [.bool true, .int .i64 pos, .int .i32 (Utf8.decode ⟨s.toArray⟩ pos).1], S.put id (ver, .siter s (pos + (Utf8.decode ⟨s.toArray⟩ pos).2))) else some (.tup [.bool false], S) := by
  by_cases h : (S.get id).1 = ver
  · simp only [nextA, iterK, h, and_true, if_true]; cases (S.get id).2 <;> rfl
  · simp only [nextA, iterK, h, and_true, if_false]
theorem iterK_at (v : Nat) (s : List UInt8) (pos : Nat) {α : Type} (f : List UInt8 → Nat → Option α) : iterK (v, .siter s pos) v f = f s pos := by simp [iterK]
theorem a_convSS {d : Option Nat} {x : Operand} : aop P W0 ⟨d, .convSS x, none⟩ K e S = optK (strO (evA e x) AV.str) (contK d K e S) := by
  simp only [aop, ev, strO]; cases evA e x <;> rfl
theorem a_convSB {d : Option Nat} {x : Operand} : aop P W0 ⟨d, .convSB x, none⟩ K e S = optK (strO (evA e x) fun s => .list false s.length (s.map u8)) (contK d K e S) := by
  simp only [aop, ev, strO]; cases evA e x <;> rfl
def convBSA (S : St) (x : AV) : Option AV := match x with | .str _ => none | y => (rd S 1 y).bind fun p => (bytesOf p.2).map AV.str
theorem a_convBS {d : Option Nat} {x : Operand} : aop P W0 ⟨d, .convBS x, none⟩ K e S = optK (convBSA S (evA e x)) (contK d K e S) := by
  simp only [aop, ev, convBSA]
  generalize evA e x = y
  have gen : ∀ z : Option (Nat × List AV), (optK (z.bind fun p => (bytesOf p.2).map fun s => (AV.str s, S)) fun p => K (setD e d p.1) p.2) = optK (z.bind fun p => (bytesOf p.2).map AV.str) (contK d K e S) := by
    intro z
    cases z with
    | none => rfl
    | some p => simp only [Option.bind_some]; cases bytesOf p.2 <;> rfl
  cases y <;> first | rfl | exact gen _
theorem a_mkI {d : Option Nat} {T : TypeId} {x : Operand} : aop P W0 ⟨d, .mkI T x, none⟩ K e S = K (setD e d (.iface T (evA e x))) S := nr rfl
theorem a_mkF {d : Option Nat} {fn : Fn} {a b : List Operand} : aop P W0 ⟨d, .mkF fn a b, none⟩ K e S = K (setD e d (.clo fn (a.map (evA e)) (b.map (evA e)))) S := nr rfl
theorem a_mkSl {d : Option Nat} {k b : Nat} {z : List Value} {l c : Operand} : aop P W0 ⟨d, .mkSl k b z l c, none⟩ K e S = optK (mkSlA S k b z (evA e l) (evA e c)) (putK d K e) := nr rfl
theorem a_slice {d : Option Nat} {k : Nat} {x : Operand} {lo hi : Option Operand} : aop P W0 ⟨d, .slice k x lo hi, none⟩ K e S = optK (sliceS S k (evA e x) (evOpt e lo) (evOpt e hi)) (contK d K e S) := by
  simp only [aop, ev]; cases sliceS S k (evA e x) (evOpt e lo) (evOpt e hi) <;> rfl
theorem a_slice3 {d : Option Nat} {k : Nat} {x : Operand} {lo : Option Operand} {hi mx : Operand} : aop P W0 ⟨d, .slice3 k x lo hi mx, none⟩ K e S = optK (sliceS3 S k (evA e x) (evOpt e lo) (evA e hi) (evA e mx)) (contK d K e S) := by
  simp only [aop, ev]; cases sliceS3 S k (evA e x) (evOpt e lo) (evA e hi) (evA e mx) <;> rfl
theorem a_sliceStr {d : Option Nat} {x : Operand} {lo hi : Option Operand} : aop P W0 ⟨d, .sliceStr x lo hi, none⟩ K e S = optK (sliceStr (evA e x) (evOpt e lo) (evOpt e hi)) (contK d K e S) := by
  simp only [aop, ev]; cases sliceStr (evA e x) (evOpt e lo) (evOpt e hi) <;> rfl
theorem a_sliceArr {d : Option Nat} {n k : Nat} {x : Operand} {lo hi : Option Operand} : aop P W0 ⟨d, .sliceArr n k x lo hi, none⟩ K e S = optK (sliceArr S n k (evA e x) (evOpt e lo) (evOpt e hi)) (contK d K e S) := by
  simp only [aop, ev]; cases sliceArr S n k (evA e x) (evOpt e lo) (evOpt e hi) <;> rfl
theorem a_faddr {d : Option Nat} {off : Nat} {x : Operand} : aop P W0 ⟨d, .faddr off x, none⟩ K e S = optK (faddrA S off (evA e x)) (contK d K e S) := by
  simp only [aop, ev]; cases faddrA S off (evA e x) <;> rfl
theorem a_field {d : Option Nat} {off n : Nat} {ag : Bool} {x : Operand} : aop P W0 ⟨d, .field off n ag x, none⟩ K e S = optK (aggO (evA e x) off n ag) (contK d K e S) := by
  simp only [aop, ev, aggO]
  generalize evA e x = y
  cases y <;> first | rfl | (rename_i cells; simp only []; cases sliceA cells off n ag <;> rfl)
theorem a_iaddr {d : Option Nat} {k : Nat} {x i : Operand} : aop P W0 ⟨d, .iaddr k x i, none⟩ K e S = optK (iaddrA S k (evA e x) (evA e i)) (contK d K e S) := by
  simp only [aop, ev]; cases iaddrA S k (evA e x) (evA e i) <;> rfl
theorem a_iaddrArr {d : Option Nat} {n k : Nat} {x i : Operand} : aop P W0 ⟨d, .iaddrArr n k x i, none⟩ K e S = optK (iaddrArr S n k (evA e x) (evA e i)) (contK d K e S) := by
  simp only [aop, ev]; cases iaddrArr S n k (evA e x) (evA e i) <;> rfl
theorem a_idx {d : Option Nat} {x i : Operand} : aop P W0 ⟨d, .idx x i, none⟩ K e S = optK (idxA (evA e x) (evA e i)) (contK d K e S) := by
  simp only [aop, ev]; cases idxA (evA e x) (evA e i) <;> rfl
theorem a_extract {d : Option Nat} {i : Nat} {x : Operand} : aop P W0 ⟨d, .extract i x, none⟩ K e S = optK (tupO (evA e x) i) (contK d K e S) := by
  simp only [aop, ev, tupO]
  generalize evA e x = y
  cases y <;> first | rfl | (rename_i xs; simp only []; cases xs[i]? <;> rfl)
theorem a_lenS {d : Option Nat} {x : Operand} : aop P W0 ⟨d, .lenS x, none⟩ K e S = optK (strO (evA e x) fun s => .int .i64 s.length) (contK d K e S) := by
  simp only [aop, ev, strO, lenSA]; cases evA e x <;> rfl
theorem a_lenL {d : Option Nat} {x : Operand} : aop P W0 ⟨d, .lenL x, none⟩ K e S = optK (lenLA S (evA e x)) (contK d K e S) := by
  simp only [aop, ev]; cases lenLA S (evA e x) <;> rfl
theorem a_min {d : Option Nat} {x y : Operand} : aop P W0 ⟨d, .min x y, none⟩ K e S = optK (minA (evA e x) (evA e y)) (contK d K e S) := by
  simp only [aop, ev]; cases minA (evA e x) (evA e y) <;> rfl
theorem a_max {d : Option Nat} {x y : Operand} : aop P W0 ⟨d, .max x y, none⟩ K e S = optK (maxA (evA e x) (evA e y)) (contK d K e S) := by
  simp only [aop, ev]; cases maxA (evA e x) (evA e y) <;> rfl
theorem a_append {d : Option Nat} {k b : Nat} {x y : Operand} : aop P W0 ⟨d, .append k b x y, none⟩ K e S = optK (appendA S k b (evA e x) (evA e y)) (putK d K e) := nr rfl
theorem a_appendZ {d : Option Nat} {k b : Nat} {z : List Value} {x y : Operand} : aop P W0 ⟨d, .appendZ k b z x y, none⟩ K e S = optK (appendZA S k b z (evA e x) (evA e y)) (putK d K e) := nr rfl
theorem a_copy {d : Option Nat} {k : Nat} {x y : Operand} : aop P W0 ⟨d, .copy k x y, none⟩ K e S = optK (copyA S k (evA e x) (evA e y)) (putK d K e) := nr rfl

end

theorem optK_some {α : Type} (a : α) (F : α → Prop) : optK (some a) F = F a := nr rfl
theorem optK_none {α : Type} (F : α → Prop) : optK none F = False := nr rfl
theorem optK_pos {α : Type} {c : Prop} {_ : Decidable c} (h : c) (x y : Option α) (F : α → Prop) : optK (if c then x else y) F = optK x F := by rw [if_pos h]
theorem optK_map {α β : Type} (f : α → β) (x : Option α) (F : β → Prop) : optK (x.map f) F = optK x fun a => F (f a) := by cases x <;> rfl
theorem bind_pos {α β : Type} {c : Prop} {_ : Decidable c} (h : c) (x y : Option α) (f : α → Option β) : (if c then x else y).bind f = x.bind f := by rw [if_pos h]
theorem map_pos {α β : Type} {c : Prop} {_ : Decidable c} (h : c) (x y : Option α) (f : α → β) : (if c then x else y).map f = x.map f := by rw [if_pos h]
theorem optK_bind {α β : Type} (f : α → Option β) (x : Option α) (F : β → Prop) : optK (x.bind f) F = optK x fun a => optK (f a) F := by cases x <;> rfl

/- Arithmetic. -/
theorem bin_int (S : St) (op : BinOp) (k : IntKind) (a b : Int) (h1 : op ≠ .shl) (h2 : op ≠ .shr) : binA S .prim op (.int k a) (.int k b) = intBin op k a b := by
  cases op <;> simp_all [binA]
theorem bin_shl (S : St) (k k' : IntKind) (a b : Int) (h : 0 ≤ b) : binA S .prim .shl (.int k a) (.int k' b) = some (.int k (shlI k a b)) := by simp [binA]; omega
theorem bin_shr (S : St) (k k' : IntKind) (a b : Int) (h : 0 ≤ b) : binA S .prim .shr (.int k a) (.int k' b) = some (.int k (shrI k a b)) := by simp [binA]; omega
theorem bin_str (S : St) (op : BinOp) (a b : List UInt8) : binA S .prim op (.str a) (.str b) = strBin op a b := nr rfl
theorem bin_bool (S : St) (op : BinOp) (a b : Bool) : binA S .bool op (.bool a) (.bool b) = eqA op (a == b) := nr rfl
theorem b_add (S : St) (k : IntKind) (a b : Int) : binA S .prim .add (.int k a) (.int k b) = some (.int k (k.wrap (a + b))) := by simp [binA, intBin]
theorem b_sub (S : St) (k : IntKind) (a b : Int) : binA S .prim .sub (.int k a) (.int k b) = some (.int k (k.wrap (a - b))) := by simp [binA, intBin]
theorem b_mul (S : St) (k : IntKind) (a b : Int) : binA S .prim .mul (.int k a) (.int k b) = some (.int k (k.wrap (a * b))) := by simp [binA, intBin]
theorem b_quo (S : St) (k : IntKind) (a b : Int) (h : b ≠ 0) : binA S .prim .quo (.int k a) (.int k b) = some (.int k (k.wrap (a.tdiv b))) := by simp [binA, intBin, h]
theorem b_rem (S : St) (k : IntKind) (a b : Int) (h : b ≠ 0) : binA S .prim .rem (.int k a) (.int k b) = some (.int k (a.tmod b)) := by simp [binA, intBin, h]
theorem b_eql (S : St) (k : IntKind) (a b : Int) : binA S .prim .eql (.int k a) (.int k b) = some (.bool (decide (a = b))) := by simp [binA, intBin]
theorem b_neq (S : St) (k : IntKind) (a b : Int) : binA S .prim .neq (.int k a) (.int k b) = some (.bool (decide (a ≠ b))) := by simp [binA, intBin]
theorem b_lss (S : St) (k : IntKind) (a b : Int) : binA S .prim .lss (.int k a) (.int k b) = some (.bool (decide (a < b))) := by simp [binA, intBin]
theorem b_leq (S : St) (k : IntKind) (a b : Int) : binA S .prim .leq (.int k a) (.int k b) = some (.bool (decide (a ≤ b))) := by simp [binA, intBin]
theorem b_gtr (S : St) (k : IntKind) (a b : Int) : binA S .prim .gtr (.int k a) (.int k b) = some (.bool (decide (b < a))) := by simp [binA, intBin]
theorem b_geq (S : St) (k : IntKind) (a b : Int) : binA S .prim .geq (.int k a) (.int k b) = some (.bool (decide (b ≤ a))) := by simp [binA, intBin]
theorem b_and (S : St) (k : IntKind) (a b : Int) : binA S .prim .and (.int k a) (.int k b) = some (.int k (bitsI .and k a b)) := by simp [binA, intBin]
theorem b_or (S : St) (k : IntKind) (a b : Int) : binA S .prim .or (.int k a) (.int k b) = some (.int k (bitsI .or k a b)) := by simp [binA, intBin]
theorem b_xor (S : St) (k : IntKind) (a b : Int) : binA S .prim .xor (.int k a) (.int k b) = some (.int k (bitsI .xor k a b)) := by simp [binA, intBin]

theorem wrap64 {n : Int} (h : -9223372036854775808 ≤ n ∧ n ≤ 9223372036854775807) : IntKind.i64.wrap n = n := wrap_i64 h.1 h.2
theorem wrap8 {n : Int} (h : 0 ≤ n ∧ n ≤ 255) : IntKind.u8.wrap n = n := by
  simp [IntKind.wrap, IntKind.bits, IntKind.signed]; omega
theorem tdiv_pos {a b : Int} (h : 0 ≤ a) : a.tdiv b = a / b := Int.tdiv_eq_ediv_of_nonneg h
theorem tmod_pos {a b : Int} (h : 0 ≤ a) : a.tmod b = a % b := Int.tmod_eq_emod_of_nonneg h

theorem Br_dec {p : Prop} {_ : Decidable p} {F G : Env → St → Prop} {e : Env} {S : St} (h1 : p → F e S) (h2 : ¬ p → G e S) : Br (decide p) F G e S :=
  ⟨fun h => h1 (of_decide_eq_true h), fun h => h2 (of_decide_eq_false h)⟩
theorem Br_of {t : Bool} {F G : Env → St → Prop} {e : Env} {S : St} (h1 : t = true → F e S) (h2 : t = false → G e S) : Br t F G e S := ⟨h1, h2⟩

theorem env_0 (a : AV) (l : List AV) : env0 (a :: l) 0 = a := nr rfl
theorem env_1 (a b : AV) (l : List AV) : env0 (a :: b :: l) 1 = b := nr rfl
theorem env_2 (a b c : AV) (l : List AV) : env0 (a :: b :: c :: l) 2 = c := nr rfl
theorem env_3 (a b c d : AV) (l : List AV) : env0 (a :: b :: c :: d :: l) 3 = d := nr rfl
theorem env_4 (a b c d x : AV) (l : List AV) : env0 (a :: b :: c :: d :: x :: l) 4 = x := nr rfl
theorem env_5 (a b c d x y : AV) (l : List AV) : env0 (a :: b :: c :: d :: x :: y :: l) 5 = y := nr rfl

/-- A call that leaves all as it was, and gives v. -/
def Gives (P : Program) (W0 : World) (f : FuncId) (args : List AV) (S : St) (v : AV) : Prop := CallsA P W0 f args S fun r S' => S' = S ∧ r = v
theorem Gives.go {P : Program} {W0 : World} {f : FuncId} {args : List AV} {S : St} {v : AV} {Q : AV → St → Prop} (h : Gives P W0 f args S v) (hq : Q v S) : CallsA P W0 f args S Q :=
  CallsA.mono h (by rintro r S' ⟨rfl, rfl⟩; exact hq)

/-- A call leaves with v. -/
def retV (v : AV) (S0 : St) (Q : AV → St → Prop) (S : St) : Prop :=
  (∃ m, S0.len ≤ m ∧ m ≤ S.len ∧ (frz S m 4 v).under m = true ∧ (∀ i, i < m → (i < S0.len ∧ S.get i = S0.get i) ∨ (S.get i).2.under m = true) ∧ Q (frz S m 4 v) (S.trunc m)) ∨
  ((∀ i, (S.get i).2.under S.len = true) → v.under S.len = true → Q v S)

theorem retV_of {rs : List ARes} {S0 : St} {Q : AV → St → Prop} {x : AExit} {e : Env} {S : St} {v : AV} (hx : x.leaves = true) (hr : resultsA rs e S = some v) : bodyQ rs S0 Q x e S = retV v S0 Q S := by
  have : ((∃ m, leaveA rs S0.len S0 m Q e S) ∨ stayA rs Q e S) = retV v S0 Q S := by
    apply propext
    constructor
    · rintro (⟨m, r, h1, h2, h3, h4, h5, h6⟩ | ⟨r, h1, h2⟩)
      · rw [hr] at h1; cases h1
        exact .inl ⟨m, h2, h3, h4, h5, h6⟩
      · rw [hr] at h1; cases h1
        exact .inr h2
    · rintro (⟨m, h2, h3, h4, h5, h6⟩ | h2)
      · exact .inl ⟨m, v, hr, h2, h3, h4, h5, h6⟩
      · exact .inr ⟨v, hr, h2⟩
  rw [← this]
  cases x with
  | exit id => cases hx
  | normal => rfl
  | ret => rfl

theorem r_0 {S0 : St} {Q : AV → St → Prop} {e : Env} {S : St} : bodyQ [] S0 Q .ret e S = retV (.tup []) S0 Q S := retV_of rfl rfl
theorem r_1 {S0 : St} {Q : AV → St → Prop} {e : Env} {S : St} {a : Nat} : bodyQ [.tmp a] S0 Q .ret e S = retV (e a) S0 Q S := retV_of rfl rfl
theorem r_2 {S0 : St} {Q : AV → St → Prop} {e : Env} {S : St} {a b : Nat} : bodyQ [.tmp a, .tmp b] S0 Q .ret e S = retV (.tup [e a, e b]) S0 Q S := retV_of rfl rfl
theorem r_3 {S0 : St} {Q : AV → St → Prop} {e : Env} {S : St} {a b c : Nat} : bodyQ [.tmp a, .tmp b, .tmp c] S0 Q .ret e S = retV (.tup [e a, e b, e c]) S0 Q S := retV_of rfl rfl
theorem retV_opt {rs : List ARes} {S0 : St} {Q : AV → St → Prop} {x : AExit} {e : Env} {S : St} (hx : x.leaves = true) : bodyQ rs S0 Q x e S = optK (resultsA rs e S) fun v => retV v S0 Q S := by
  cases hr : resultsA rs e S with
  | some v => exact retV_of hx hr
  | none =>
    have : ¬ bodyQ rs S0 Q x e S := by
      intro h
      cases x with
      | exit id => cases hx
      | normal => obtain ⟨m, r, h1, _⟩ | ⟨r, h1, _⟩ := h <;> (rw [hr] at h1; cases h1)
      | ret => obtain ⟨m, r, h1, _⟩ | ⟨r, h1, _⟩ := h <;> (rw [hr] at h1; cases h1)
    simp [this, optK]
theorem r_c1 {S0 : St} {Q : AV → St → Prop} {e : Env} {S : St} {a n : Nat} {ag : Bool} : bodyQ [.cell a n ag] S0 Q .ret e S = optK (loadA S n ag (e a)) fun v => retV v S0 Q S := by
  rw [retV_opt rfl]; simp only [resultsA, List.mapM_cons, List.mapM_nil, resA]
  cases loadA S n ag (e a) <;> rfl
theorem r_c2 {S0 : St} {Q : AV → St → Prop} {e : Env} {S : St} {a n b : Nat} {ag : Bool} : bodyQ [.cell a n ag, .tmp b] S0 Q .ret e S = optK (loadA S n ag (e a)) fun v => retV (.tup [v, e b]) S0 Q S := by
  rw [retV_opt rfl]; simp only [resultsA, List.mapM_cons, List.mapM_nil, resA]
  cases loadA S n ag (e a) <;> rfl
theorem r_c3 {S0 : St} {Q : AV → St → Prop} {e : Env} {S : St} {a n b c : Nat} {ag : Bool} : bodyQ [.cell a n ag, .tmp b, .tmp c] S0 Q .ret e S = optK (loadA S n ag (e a)) fun v => retV (.tup [v, e b, e c]) S0 Q S := by
  rw [retV_opt rfl]; simp only [resultsA, List.mapM_cons, List.mapM_nil, resA]
  cases loadA S n ag (e a) <;> rfl
theorem r_n0 {S0 : St} {Q : AV → St → Prop} {e : Env} {S : St} : bodyQ [] S0 Q .normal e S = retV (.tup []) S0 Q S := retV_of rfl rfl
theorem r_n1 {S0 : St} {Q : AV → St → Prop} {e : Env} {S : St} {a : Nat} : bodyQ [.tmp a] S0 Q .normal e S = retV (e a) S0 Q S := retV_of rfl rfl
theorem r_n2 {S0 : St} {Q : AV → St → Prop} {e : Env} {S : St} {a b : Nat} : bodyQ [.tmp a, .tmp b] S0 Q .normal e S = retV (.tup [e a, e b]) S0 Q S := retV_of rfl rfl

theorem ret_same {S : St} {Q : AV → St → Prop} {v : AV} (hu : v.under S.len = true) (hQ : Q v S) : retV v S Q S := by
  refine .inl ⟨S.len, Nat.le_refl _, Nat.le_refl _, ?_, fun i hi => .inl ⟨hi, rfl⟩, ?_⟩
  · rw [frz_under _ _ _ _ hu]; exact hu
  · rw [frz_under _ _ _ _ hu, St.trunc_len]; exact hQ

theorem ret_drop {S S' : St} {Q : AV → St → Prop} {v v' : AV} (hle : S.len ≤ S'.len) (ht : S'.trunc S.len = S) (hf : frz S' S.len 4 v = v') (hu : v'.under S.len = true) (hQ : Q v' S) : retV v S Q S' := by
  refine .inl ⟨S.len, Nat.le_refl _, hle, by rw [hf]; exact hu, fun i hi => .inl ⟨hi, ?_⟩, by rw [hf, ht]; exact hQ⟩
  have := St.get_trunc S' S.len i
  rw [ht, if_pos hi] at this
  exact this.symm
/-- A call leaves with all that it has made. -/
theorem ret_stay {S S' : St} {Q : AV → St → Prop} {v : AV} (hQ : (∀ i, (S'.get i).2.under S'.len = true) → v.under S'.len = true → Q v S') : retV v S Q S' := .inr hQ

end Go.Proofs.YtnfiihdebonadaaGreatDoor.Abs
