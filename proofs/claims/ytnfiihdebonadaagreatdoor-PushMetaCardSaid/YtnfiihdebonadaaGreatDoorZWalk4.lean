import Derived.Test.YtnfiihdebonadaaGreatDoorZWalk
set_option linter.unusedSimpArgs false
set_option linter.unusedVariables false
set_option linter.unusedSectionVars false
namespace Go.Proofs.YtnfiihdebonadaaGreatDoor.Abs

/-- A block of version v is laid on. -/
def St.pushv (S : St) (v : Nat) (b : Blk) : St := ⟨S.mem ++ [(v, b)]⟩
theorem push_eq (S : St) (b : Blk) : S.push b = S.pushv 0 b := nr rfl
theorem len_pushv (S : St) (v : Nat) (b : Blk) : (S.pushv v b).len = S.len + 1 := by simp [St.len, St.pushv]
theorem len_put (S : St) (i : Nat) (b : Nat × Blk) : (S.put i b).len = S.len := by simp
theorem get_pushv_at {S : St} {v : Nat} {b : Blk} {i : Nat} (h : i = S.len) : (S.pushv v b).get i = (v, b) := by
  subst h; simp [St.get, St.pushv, St.len]
theorem get_pushv_ne {S : St} {v : Nat} {b : Blk} {i : Nat} (h : i ≠ S.len) : (S.pushv v b).get i = S.get i := by
  simp only [St.get, St.pushv, St.len, List.getD_eq_getElem?_getD] at *
  rcases Nat.lt_or_gt_of_ne h with h | h
  · rw [List.getElem?_append_left h]
  · rw [List.getElem?_append_right (by omega), List.getElem?_eq_none (by simp; omega), List.getElem?_eq_none (by omega)]
theorem put_pushv_at {S : St} {v : Nat} {b : Blk} {i : Nat} {c : Nat × Blk} (h : i = S.len) : (S.pushv v b).put i c = S.pushv c.1 c.2 := by
  subst h; simp [St.put, St.pushv, St.len]
theorem put_pushv_ne {S : St} {v : Nat} {b : Blk} {i : Nat} {c : Nat × Blk} (h : i < S.len) : (S.pushv v b).put i c = (S.put i c).pushv v b := by
  simp only [St.len] at h
  simp [St.put, St.pushv, List.set_append, h]
theorem put_put {S : St} {i : Nat} {b c : Nat × Blk} : (S.put i b).put i c = S.put i c := by
  simp [St.put]
theorem get_put_at {S : St} {i : Nat} {b : Nat × Blk} (h : i < S.len) : (S.put i b).get i = b := St.get_put_eq _ _ _ h
theorem get_put_no {S : St} {i j : Nat} {b : Nat × Blk} (h : j ≠ i) : (S.put i b).get j = S.get j := St.get_put_ne _ _ _ h
theorem trunc_pushv {S : St} {v m : Nat} {b : Blk} (h : m ≤ S.len) : (S.pushv v b).trunc m = S.trunc m := by
  simp only [St.trunc, St.pushv, St.len] at *; rw [List.take_append_of_le_length h]
theorem trunc_self (S : St) : S.trunc S.len = S := St.trunc_len S

/- Cells. -/
def cellK {α : Type} (g : Nat × Blk) (ver : Nat) (F : List AV → Option α) : Option α := match g with | (v, .row cells) => if v = ver then F cells else none | _ => none
theorem cellK_row {α : Type} (v : Nat) (cells : List AV) (F : List AV → Option α) : cellK (v, .row cells) v F = F cells := by simp [cellK]
theorem load_ptr (S : St) (n : Nat) (ag : Bool) (id ver off : Nat) : loadA S n ag (.ptr id ver off) = cellK (S.get id) ver fun cells => sliceA cells off n ag := by
  simp only [loadA, cellK]
  cases hg : S.get id with
  | mk v b => cases b <;> simp
theorem load_eptr (S : St) (n : Nat) (ag : Bool) (cells : List AV) (off : Nat) : loadA S n ag (.eptr cells off) = sliceA cells off n ag := nr rfl
theorem slice_one (cells : List AV) (off n : Nat) : sliceA cells off n false = cells[off]? := nr rfl
theorem slice_agg {cells : List AV} {off n : Nat} (h : off + n ≤ cells.length) : sliceA cells off n true = some (.agg ((cells.drop off).take n)) := by simp [sliceA, h]
def storeK (S : St) (n id ver off : Nat) (cells : List AV) (c : Option (List AV)) : Option St := c.bind fun cs => if cs.length = n ∧ off + n ≤ cells.length then some (S.put id (ver, .row (putC cells off cs))) else none
theorem storeK_some {S : St} {n id ver off : Nat} {cells cs : List AV} (h : cs.length = n ∧ off + n ≤ cells.length) : storeK S n id ver off cells (some cs) = some (S.put id (ver, .row (putC cells off cs))) := by
  simp only [storeK, Option.bind_some, if_pos h]
theorem store_ptr (S : St) (n : Nat) (id ver off : Nat) (y : AV) : storeA S n (.ptr id ver off) y = cellK (S.get id) ver fun cells => storeK S n id ver off cells y.cellsOf := by
  simp only [storeA, cellK, storeK]
  cases hg : S.get id with
  | mk v b => cases b <;> simp <;> split <;> cases y.cellsOf <;> rfl
theorem putC_one (cells : List AV) (o : Nat) (x : AV) : putC cells o [x] = cells.set o x := nr rfl
theorem putC_two (cells : List AV) (o : Nat) (x y : AV) (l : List AV) : putC cells o (x :: y :: l) = cells.take o ++ (x :: y :: l) ++ cells.drop (o + (x :: y :: l).length) := nr rfl
def verK {α : Type} (g : Nat × Blk) (ver : Nat) (r : α) : Option α := if g.1 = ver then some r else none
theorem verK_at {α : Type} (v : Nat) (b : Blk) (r : α) : verK (v, b) v r = some r := by simp [verK]
theorem faddr_ptr (S : St) (off id ver o : Nat) : faddrA S off (.ptr id ver o) = verK (S.get id) ver (.ptr id ver (o + off)) := nr rfl
theorem faddr_eptr (S : St) (off : Nat) (cells : List AV) (o : Nat) : faddrA S off (.eptr cells o) = some (.eptr cells (o + off)) := nr rfl
theorem nilchk_ptr (S : St) (id ver off : Nat) : nilchkA S (.ptr id ver off) = verK (S.get id) ver (.ptr id ver off) := nr rfl
theorem nilchk_eptr (S : St) (cells : List AV) (off : Nat) : nilchkA S (.eptr cells off) = some (.eptr cells off) := nr rfl
theorem len_list (S : St) (fl : Bool) (n : Nat) (cells : List AV) : lenLA S (.list fl n cells) = some (.int .i64 n) := nr rfl
theorem len_ref (S : St) (id ver k off len : Nat) : lenLA S (.ref id ver k off len) = verK (S.get id) ver (.int .i64 len) := nr rfl
theorem idx_ok {n : Nat} {k : IntKind} {i : Int} (h : 0 ≤ i ∧ i < n) : idxIn n (.int k i) = some i.toNat := by simp [idxIn, h]
theorem iaddr_list (S : St) (k : Nat) (fl : Bool) (n : Nat) (cells : List AV) (i : AV) : iaddrA S k (.list fl n cells) i = (idxIn n i).bind fun i => if i * k < cells.length then some (.eptr cells (i * k)) else none := nr rfl
theorem iaddr_ref (S : St) (k id ver off len : Nat) (i : AV) : iaddrA S k (.ref id ver k off len) i = (verK (S.get id) ver ()).bind fun _ => (idxIn len i).map fun i => .ptr id ver (off + i * k) := by
  simp only [iaddrA, verK, and_true]
  by_cases h : (S.get id).1 = ver <;> simp [h]
theorem bnd_no (y d : Nat) : bnd y none d = some d := nr rfl
theorem bnd_ok {y d : Nat} {k : IntKind} {i : Int} (h : 0 ≤ i ∧ i ≤ y) : bnd y (some (.int k i)) d = some i.toNat := by simp [bnd, h]
theorem sl_ref (S : St) (k id ver off len : Nat) (lo hi : Option AV) : sliceS S k (.ref id ver k off len) lo hi = (verK (S.get id) ver ()).bind fun _ => (bnd len hi len).bind fun h => (bnd h lo 0).map fun l => .ref id ver k (off + l * k) (h - l) := by
  simp only [sliceS, verK, and_true]
  by_cases h : (S.get id).1 = ver <;> simp [h]
theorem sl_str (s : List UInt8) (lo hi : Option AV) : sliceStr (.str s) lo hi = (bnd s.length hi s.length).bind fun h => (bnd h lo 0).map fun l => .str ((s.drop l).take (h - l)) := nr rfl
theorem evOpt_none (e : Env) : evOpt e none = none := nr rfl
theorem evOpt_some (e : Env) (x : Operand) : evOpt e (some x) = some (evA e x) := nr rfl
theorem evParts_nil (e : Env) : evParts e [] = [] := nr rfl
theorem evParts_cons (e : Env) (a b : Nat) (x : Operand) (l : List (Nat × Nat × Operand)) : evParts e ((a, b, x) :: l) = (a, b, evA e x) :: evParts e l := nr rfl
theorem fill_nil (cells : List AV) : fillA cells [] = some cells := nr rfl
def fillK (cells : List AV) (off size : Nat) (l : List (Nat × Nat × AV)) (c : Option (List AV)) : Option (List AV) := c.bind fun cs => if cs.length = size ∧ off + size ≤ cells.length then fillA (putC cells off cs) l else none
theorem fill_cons (cells : List AV) (off size : Nat) (v : AV) (l : List (Nat × Nat × AV)) : fillA cells ((off, size, v) :: l) = fillK cells off size l v.cellsOf := by
  simp only [fillA, fillK]; cases v.cellsOf <;> rfl
theorem fillK_some {cells : List AV} {off size : Nat} {l : List (Nat × Nat × AV)} {cs : List AV} (h : cs.length = size ∧ off + size ≤ cells.length) : fillK cells off size l (some cs) = fillA (putC cells off cs) l := by
  simp only [fillK, Option.bind_some, if_pos h]
theorem cells_int (k : IntKind) (n : Int) : (AV.int k n).cellsOf = some [.int k n] := nr rfl
theorem cells_bool (b : Bool) : (AV.bool b).cellsOf = some [.bool b] := nr rfl
theorem cells_str (s : List UInt8) : (AV.str s).cellsOf = some [.str s] := nr rfl
theorem cells_agg (l : List AV) : (AV.agg l).cellsOf = some l := nr rfl
theorem cells_ptr (a b c : Nat) : (AV.ptr a b c).cellsOf = some [.ptr a b c] := nr rfl
theorem cells_ref (a b c d f : Nat) : (AV.ref a b c d f).cellsOf = some [.ref a b c d f] := nr rfl
theorem cells_list (fl : Bool) (n : Nat) (l : List AV) : (AV.list fl n l).cellsOf = some [.list fl n l] := nr rfl
theorem cells_iface (t : TypeId) (x : AV) : (AV.iface t x).cellsOf = some [.iface t x] := nr rfl
theorem cells_map (a b : Nat) : (AV.map a b).cellsOf = some [.map a b] := nr rfl
theorem v_int (k : IntKind) (n : Int) : AV.ofValue1 (.int k n) = .int k n := nr rfl
theorem v_bool (b : Bool) : AV.ofValue1 (.bool b) = .bool b := nr rfl
theorem v_str (s : ByteArray) : AV.ofValue1 (.string s) = .str s.data.toList := nr rfl
theorem v_nilS : AV.ofValue1 (.slice none 0 0) = .list true 0 [] := nr rfl
theorem v_nilP : AV.ofValue1 (.pointer none) = .val (.pointer none) := nr rfl
theorem v_nilI : AV.ofValue1 .nilIface = .val .nilIface := nr rfl
theorem mk_ok (S : St) {k b : Nat} {z : List Value} {kl kc : IntKind} {n m : Int} (h : 0 ≤ n ∧ n ≤ m ∧ m ≤ 9223372036854775807 ∧ b * m ≤ 140737488355328) : mkSlA S k b z (.int kl n) (.int kc m) = some (.ref S.len 0 k 0 n.toNat, S.pushv 0 (.row ((repZ z n.toNat).map AV.ofValue1))) := by
  simp only [mkSlA]; rw [if_pos h]; rfl
theorem isNil_ptr (S : St) (id ver off : Nat) : eqP S (.ptr id ver off) (.val (.pointer none)) = verK (S.get id) ver false := nr rfl
theorem isNil_eptr (S : St) (cells : List AV) (off : Nat) : eqP S (.eptr cells off) (.val (.pointer none)) = some false := nr rfl
theorem isNil_nil (S : St) : eqP S (.val (.pointer none)) (.val (.pointer none)) = some true := nr rfl
theorem bin_ptr (S : St) (op : BinOp) (x y : AV) : binA S .ptr op x y = (eqP S x y).bind (eqA op) := nr rfl
theorem bin_nilI (S : St) (op : BinOp) (x y : AV) : binA S .nilI op x y = (eqI x y).bind (eqA op) := nr rfl
theorem eqI_some (t : TypeId) (x : AV) : eqI (.iface t x) (.val .nilIface) = some false := nr rfl
theorem eqI_nil : eqI (.val .nilIface) (.val .nilIface) = some true := nr rfl
theorem eqA_eql (b : Bool) : eqA .eql b = some (.bool b) := nr rfl
theorem eqA_neq (b : Bool) : eqA .neq b = some (.bool !b) := nr rfl
theorem un_not (b : Bool) : unA .not (.bool b) = some (.bool !b) := nr rfl
theorem un_neg (k : IntKind) (n : Int) : unA .neg (.int k n) = some (.int k (k.wrap (0 - n))) := nr rfl
theorem not_dec {p : Prop} [Decidable p] : (!decide p) = decide (¬ p) := by simp

/-- A call that leaves with all it has made. -/
theorem ret_keep {S S' : St} {Q : AV → St → Prop} {v : AV} (hle : S.len ≤ S'.len) (hu : v.under S'.len = true) (hb : ∀ i, i < S'.len → (i < S.len ∧ S'.get i = S.get i) ∨ (S'.get i).2.under S'.len = true) (hQ : Q v S') : retV v S Q S' :=
  .inl ⟨S'.len, hle, Nat.le_refl _, by rw [frz_under _ _ _ _ hu]; exact hu, hb, by rw [frz_under _ _ _ _ hu, St.trunc_len]; exact hQ⟩
/-- A call that leaves with one block more. -/
theorem ret_push {S : St} {Q : AV → St → Prop} {v : AV} {ver : Nat} {b : Blk} (hu : v.under (S.len + 1) = true) (hb : b.under (S.len + 1) = true) (hQ : Q v (S.pushv ver b)) : retV v S Q (S.pushv ver b) := by
  refine ret_keep (by rw [len_pushv]; omega) (by rw [len_pushv]; exact hu) (fun i hi => ?_) hQ
  rw [len_pushv] at hi ⊢
  rcases Nat.lt_or_ge i S.len with h | h
  · exact .inl ⟨h, get_pushv_ne (by omega)⟩
  · right
    rw [get_pushv_at (by omega)]
    exact hb
theorem under_bytes (m : Nat) (l : List UInt8) : underL m (l.map u8) = true := underL_map _ _ _ fun _ => rfl

end Go.Proofs.YtnfiihdebonadaaGreatDoor.Abs
namespace Go.Proofs.YtnfiihdebonadaaGreatDoor.Abs

def AV.isSl : AV → Bool
  | .list _ _ _ => true
  | .ref _ _ _ _ _ => true
  | _ => false
/-- The block that a slice names. -/
def AV.names (x : AV) (id : Nat) : Prop := match x with | .ref i _ _ _ _ => i = id | _ => False

/-- A slice holds n elements of k cells. -/
def Holds (S : St) (k : Nat) (x : AV) (n : Nat) (cells : List AV) : Prop := x.isSl = true ∧ rd S k x = some (n, cells)
/-- A slice of bytes. -/
def Bytes (S : St) (x : AV) (l : List UInt8) : Prop := Holds S 1 x l.length (l.map u8)

theorem Holds.keep {S S' : St} {k n : Nat} {x : AV} {cells : List AV} (h : Holds S k x n cells) (hg : ∀ id, x.names id → S'.get id = S.get id) : Holds S' k x n cells := by
  refine ⟨h.1, ?_⟩
  have h2 := h.2
  cases x <;> first | exact h2 | skip
  case ref id ver k' off len =>
    have := hg id rfl
    simp only [rd, this] at h2 ⊢
    exact h2
theorem Holds.pushv {S : St} {k n : Nat} {x : AV} {cells : List AV} {v : Nat} {b : Blk} (h : Holds S k x n cells) (hu : x.under S.len = true) : Holds (S.pushv v b) k x n cells := by
  refine h.keep fun id hid => get_pushv_ne ?_
  cases x <;> simp only [AV.names] at hid
  subst hid
  simp [AV.under] at hu; omega
theorem Holds.put {S : St} {k n i : Nat} {x : AV} {cells : List AV} {b : Nat × Blk} (h : Holds S k x n cells) (hi : ¬ x.names i) : Holds (S.put i b) k x n cells :=
  h.keep fun id hid => get_put_no fun e => hi (e ▸ hid)
theorem Holds.len {S : St} {k n : Nat} {x : AV} {cells : List AV} (h : Holds S k x n cells) : lenLA S x = some (.int .i64 n) := by
  obtain ⟨h1, h2⟩ := h
  cases x <;> simp only [AV.isSl] at h1 <;> first | cases h1 | skip
  case list fl m c =>
    simp only [rd] at h2; split at h2
    · cases h2; rfl
    · cases h2
  case ref id ver k' off len =>
    simp only [rd] at h2; split at h2
    · rename_i hc
      simp only [lenLA, hc.1, if_true]
      split at h2
      · split at h2
        · cases h2; rfl
        · cases h2
      · cases h2
    · cases h2

/-- The address of an element. -/
def eltA (k : Nat) (x : AV) (j : Nat) : AV := match x with
  | .list _ _ cells => .eptr cells (j * k)
  | .ref id ver _ off _ => .ptr id ver (off + j * k)
  | _ => .undef
theorem Holds.cells_length {S : St} {k n : Nat} {x : AV} {cells : List AV} (h : Holds S k x n cells) : cells.length = n * k := by
  obtain ⟨h1, h2⟩ := h
  cases x <;> simp only [AV.isSl] at h1 <;> first | cases h1 | skip
  case list fl m c =>
    simp only [rd] at h2; split at h2
    · rename_i hc; cases h2; exact hc
    · cases h2
  case ref id ver k' off len =>
    simp only [rd] at h2; split at h2
    · split at h2
      · split at h2
        · cases h2; simp; omega
        · cases h2
      · cases h2
    · cases h2
theorem Holds.iaddr {S : St} {k n : Nat} {x : AV} {cells : List AV} (h : Holds S k x n cells) (hk : 0 < k) {kk : IntKind} {i : Int} (hi : 0 ≤ i ∧ i < n) : iaddrA S k x (.int kk i) = some (eltA k x i.toNat) := by
  have hl := h.cells_length
  obtain ⟨h1, h2⟩ := h
  cases x <;> simp only [AV.isSl] at h1 <;> first | cases h1 | skip
  case list fl m c =>
    simp only [rd] at h2; split at h2
    · rename_i hc; cases h2
      have : i.toNat * k < cells.length := by
        rw [hl]; exact Nat.mul_lt_mul_of_pos_right (by omega) hk
      simp [iaddrA, idx_ok hi, this, eltA]
    · cases h2
  case ref id ver k' off len =>
    simp only [rd] at h2; split at h2
    · rename_i hc
      split at h2
      · split at h2
        · cases h2; simp [iaddrA, hc.1, hc.2, idx_ok hi, eltA]
        · cases h2
      · cases h2
    · cases h2
theorem Holds.load {S : St} {k n : Nat} {x : AV} {cells : List AV} (h : Holds S k x n cells) {j m : Nat} {ag : Bool} : j * k + (if ag = true then m else 1) ≤ cells.length → loadA S m ag (eltA k x j) = sliceA cells (j * k) m ag := by
  intro hj
  obtain ⟨h1, h2⟩ := h
  cases x <;> simp only [AV.isSl] at h1 <;> first | cases h1 | skip
  case list fl m c =>
    simp only [rd] at h2; split at h2
    · cases h2; rfl
    · cases h2
  case ref id ver k' off ln =>
    simp only [rd] at h2; split at h2
    · rename_i hc
      split at h2
      · rename_i c hcell
        split at h2
        · rename_i hle
          cases h2
          simp only [eltA, loadA, hc.1, if_true, hcell]
          simp only [List.length_take, List.length_drop] at hj
          cases ag with
          | true =>
            simp only [if_true] at hj
            have e1 : off + j * k + m ≤ c.length := by omega
            have e2 : j * k + m ≤ ((c.drop off).take (n * k)).length := by simp; omega
            simp only [sliceA, if_true, if_pos e1, if_pos e2]
            congr 2
            rw [List.drop_take, List.take_take, List.drop_drop, Nat.min_eq_left (by omega)]
          | false =>
            simp only [Bool.false_eq_true, if_false] at hj
            simp only [sliceA, Bool.false_eq_true, if_false]
            rw [List.getElem?_take, if_pos (by omega), List.getElem?_drop]
        · cases h2
      · cases h2
    · cases h2

theorem Bytes.len {S : St} {x : AV} {l : List UInt8} (h : Bytes S x l) : lenLA S x = some (.int .i64 l.length) := Holds.len h
theorem Bytes.iaddr {S : St} {x : AV} {l : List UInt8} (h : Bytes S x l) {kk : IntKind} {i : Int} (hi : 0 ≤ i ∧ i < l.length) : iaddrA S 1 x (.int kk i) = some (eltA 1 x i.toNat) := Holds.iaddr h (by omega) hi
theorem Bytes.load {S : St} {x : AV} {l : List UInt8} (h : Bytes S x l) {j : Nat} (hj : j < l.length) : loadA S 1 false (eltA 1 x j) = some (.int .u8 (l.getD j 0).toNat) := by
  rw [Holds.load h (by simp; omega)]
  simp [sliceA, hj, u8]
theorem Bytes.conv {S : St} {x : AV} {l : List UInt8} (h : Bytes S x l) : convBSA S x = some (.str l) := by
  obtain ⟨h1, h2⟩ := h
  cases x <;> simp only [AV.isSl] at h1 <;> first | cases h1 | skip
  all_goals simp only [convBSA, h2, Option.bind_some, bytesOf_map, Option.map_some]

/-- A part of a slice. -/
def subA (k : Nat) (x : AV) (lo hi : Nat) : AV := match x with
  | .list fl n cells => .list (fl && decide (hi = n)) (hi - lo) ((cells.drop (lo * k)).take ((hi - lo) * k))
  | .ref id ver k' off _ => .ref id ver k' (off + lo * k) (hi - lo)
  | _ => .undef
theorem Holds.sub {S : St} {k n : Nat} {x : AV} {cells : List AV} (h : Holds S k x n cells) {a b : Option AV} {lo hi : Nat} (hb : bnd n b n = some hi) (ha : bnd hi a 0 = some lo) : sliceS S k x a b = some (subA k x lo hi) := by
  have hl := h.cells_length
  obtain ⟨h1, h2⟩ := h
  cases x <;> simp only [AV.isSl] at h1 <;> first | cases h1 | skip
  case list fl m c =>
    simp only [rd] at h2; split at h2
    · rename_i hc; cases h2
      simp [sliceS, hb, ha, hc, subA]
    · cases h2
  case ref id ver k' off len =>
    simp only [rd] at h2; split at h2
    · rename_i hc
      split at h2
      · split at h2
        · cases h2; simp [sliceS, hc.1, hc.2, hb, ha, subA]
        · cases h2
      · cases h2
    · cases h2
theorem Holds.subH {S : St} {k n : Nat} {x : AV} {cells : List AV} (h : Holds S k x n cells) {lo hi : Nat} (hlo : lo ≤ hi) (hhi : hi ≤ n) : Holds S k (subA k x lo hi) (hi - lo) ((cells.drop (lo * k)).take ((hi - lo) * k)) := by
  have hl := h.cells_length
  have m1 : hi * k ≤ n * k := Nat.mul_le_mul_right _ hhi
  have m2 : (hi - lo) * k = hi * k - lo * k := Nat.sub_mul _ _ _
  have m3 : lo * k ≤ hi * k := Nat.mul_le_mul_right _ hlo
  obtain ⟨h1, h2⟩ := h
  cases x <;> simp only [AV.isSl] at h1 <;> first | cases h1 | skip
  case list fl m c =>
    simp only [rd] at h2; split at h2
    · rename_i hc; cases h2
      refine ⟨rfl, ?_⟩
      have : ((cells.drop (lo * k)).take ((hi - lo) * k)).length = (hi - lo) * k := by simp; omega
      simp only [subA, rd]; rw [if_pos this]
    · cases h2
  case ref id ver k' off ln =>
    simp only [rd] at h2; split at h2
    · rename_i hc
      split at h2
      · rename_i c hcell
        split at h2
        · rename_i hle
          cases h2
          refine ⟨rfl, ?_⟩
          have e1 : off + lo * k + (hi - lo) * k ≤ c.length := by omega
          simp only [subA, rd, hc.1, hc.2, and_self, if_true, hcell, if_pos e1]
          congr 2
          rw [List.drop_take, List.take_take, List.drop_drop, Nat.min_eq_left (by omega)]
        · cases h2
      · cases h2
    · cases h2
theorem Bytes.subB {S : St} {x : AV} {l : List UInt8} (h : Bytes S x l) {lo hi : Nat} (hlo : lo ≤ hi) (hhi : hi ≤ l.length) : Bytes S (subA 1 x lo hi) ((l.drop lo).take (hi - lo)) := by
  have := Holds.subH h hlo hhi
  unfold Bytes
  have e : ((l.drop lo).take (hi - lo)).length = hi - lo := by simp; omega
  rw [e]
  simpa [List.map_take, List.map_drop] using this

end Go.Proofs.YtnfiihdebonadaaGreatDoor.Abs
namespace Go.Proofs.YtnfiihdebonadaaGreatDoor.Abs

/-- All blocks of S stand as they were in S'. -/
def St.le (S S' : St) : Prop := S.len ≤ S'.len ∧ ∀ i, i < S.len → S'.get i = S.get i
theorem St.le.refl (S : St) : S.le S := ⟨Nat.le_refl _, fun _ _ => rfl⟩
theorem St.le.trans {A B C : St} (h : A.le B) (k : B.le C) : A.le C := ⟨Nat.le_trans h.1 k.1, fun i hi => by rw [k.2 i (by have := h.1; omega), h.2 i hi]⟩
theorem le_pushv {S S' : St} {v : Nat} {b : Blk} (h : S.le S') : S.le (S'.pushv v b) := ⟨by rw [len_pushv]; have := h.1; omega, fun i hi => by rw [get_pushv_ne (by have := h.1; omega), h.2 i hi]⟩
theorem le_put {S S' : St} {i : Nat} {b : Nat × Blk} (h : S.le S') (hi : S.len ≤ i) : S.le (S'.put i b) := ⟨by rw [len_put]; exact h.1, fun j hj => by rw [get_put_no (by omega), h.2 j hj]⟩
theorem le_trunc {S S' : St} {m : Nat} (h : S.le S') (hm : S.len ≤ m) : S.le (S'.trunc m) := ⟨by rw [St.len_trunc]; have := h.1; omega, fun j hj => by rw [St.get_trunc, if_pos (by omega), h.2 j hj]⟩
theorem trunc_of_le {S S' : St} (h : S.le S') : S'.trunc S.len = S := by
  cases S with
  | mk l =>
  cases S' with
  | mk l' =>
    simp only [St.le, St.len, St.get, St.trunc] at *
    congr 1
    apply List.ext_getElem?
    intro i
    rw [List.getElem?_take]
    split
    · rename_i hi
      have := h.2 i hi
      simp only [List.getD_eq_getElem?_getD] at this
      rw [List.getElem?_eq_getElem (by omega), List.getElem?_eq_getElem hi] at *
      simpa using this
    · rename_i hi
      rw [List.getElem?_eq_none (by omega)]

/-- Blocks name only blocks. -/
def St.wf (S : St) : Prop := ∀ i, (S.get i).2.under S.len = true

/-- A call leaves memory that is sound. -/
theorem CallsA.more {P : Program} {W0 : World} {f : FuncId} {args : List AV} {S : St} {Q : AV → St → Prop} (h : S.wf → CallsA P W0 f args S Q) : CallsA P W0 f args S fun r S' => Q r S' ∧ S'.wf ∧ r.under S'.len = true ∧ S.len ≤ S'.len := by
  intro ρ w vs hs ha
  refine (h hs.wf ρ w vs hs ha).mono ?_
  rintro e w' ⟨r, v, ρ', S', h1, h2, h3, h4, h5⟩
  exact ⟨r, v, ρ', S', h1, h2, h3, h4, h5, h3.wf, h2.under, h4.len⟩
theorem CallsA.of_wf {P : Program} {W0 : World} {f : FuncId} {args : List AV} {S : St} {Q : AV → St → Prop} (h : S.wf → CallsA P W0 f args S Q) : CallsA P W0 f args S Q :=
  fun ρ w vs hs ha => h hs.wf ρ w vs hs ha

theorem wf_pushv {S : St} {v : Nat} {b : Blk} (h : S.wf) (hb : b.under (S.len + 1) = true) : (S.pushv v b).wf := by
  intro i
  rw [len_pushv]
  by_cases hi : i = S.len
  · rw [get_pushv_at hi]; exact hb
  · rw [get_pushv_ne hi]; exact Blk.under_mono (by omega) _ (h i)
theorem wf_put {S : St} {i : Nat} {b : Nat × Blk} (h : S.wf) (hb : b.2.under S.len = true) : (S.put i b).wf := by
  intro j
  rw [len_put]
  rw [St.get_put]
  split
  · exact hb
  · exact h j

/-- A call leaves, with blocks up to m. -/
theorem ret_at {S S' : St} {Q : AV → St → Prop} {v v' : AV} (m : Nat) (hle : S.le S') (hm : S.len ≤ m) (hm' : m ≤ S'.len) (hf : frz S' m 4 v = v') (hu : v'.under m = true) (hb : ∀ i, S.len ≤ i → i < m → (S'.get i).2.under m = true) (hQ : Q v' (S'.trunc m)) : retV v S Q S' := by
  refine .inl ⟨m, hm, hm', by rw [hf]; exact hu, fun i hi => ?_, by rw [hf]; exact hQ⟩
  rcases Nat.lt_or_ge i S.len with h | h
  · exact .inl ⟨h, hle.2 i h⟩
  · exact .inr (hb i h hi)
/-- A call leaves with all it has made. -/
theorem ret_all {S S' : St} {Q : AV → St → Prop} {v : AV} (hle : S.le S') (hwf : S'.wf) (hu : v.under S'.len = true) (hQ : Q v S') : retV v S Q S' :=
  ret_at S'.len hle hle.1 (Nat.le_refl _) (frz_under _ _ _ _ hu) hu (fun i _ _ => hwf i) (by rw [St.trunc_len]; exact hQ)
/-- A call leaves with nothing of what it has made. -/
theorem ret_none {S S' : St} {Q : AV → St → Prop} {v v' : AV} (hle : S.le S') (hf : frz S' S.len 4 v = v') (hu : v'.under S.len = true) (hQ : Q v' S) : retV v S Q S' :=
  ret_at S.len hle (Nat.le_refl _) hle.1 hf hu (fun i h h' => absurd h' (by omega)) (by rw [trunc_of_le hle]; exact hQ)

theorem append_nil {S : St} {k b m : Nat} {y : AV} {ys : List AV} (hy : Holds S k y m ys) (hm : 0 < m) (hb : m * b ≤ 140737488355328) (hl : m ≤ 9223372036854775807) : appendA S k b (.list true 0 []) y = some (.ref S.len 0 k 0 m, S.pushv 0 (.row ys)) := by
  have : ¬ m = 0 := by omega
  simp only [appendA, hy.2, appendC, this, if_false, List.length_nil, Nat.zero_mul, Nat.zero_add, List.nil_append]
  rw [if_pos ⟨trivial, hb, hl⟩]
  rfl
theorem append_ref {S : St} {k b m id ver off len : Nat} {y : AV} {ys cells : List AV} (hg : S.get id = (ver, .row cells)) (hy : rd S k y = some (m, ys)) (ho : off + len * k ≤ cells.length) (hb : (len + m) * b ≤ 140737488355328) (hl : len + m ≤ 9223372036854775807) :
    appendA S k b (.ref id ver k off len) y = some (.ref id (ver + 1) k 0 (len + m), S.put id (ver + 1, .row ((cells.drop off).take (len * k) ++ ys))) := by
  simp only [appendA, hy, appendC, hg, and_self, if_true]
  rw [if_pos ⟨ho, hb, hl⟩]
theorem copy_ref {S : St} {k m id ver off len : Nat} {y : AV} {ys cells : List AV} (hg : S.get id = (ver, .row cells)) (hy : rd S k y = some (m, ys)) (ho : off + len * k ≤ cells.length) :
    copyA S k (.ref id ver k off len) y = some (.int .i64 (min m len : Nat), S.put id (ver, .row (putC cells off (ys.take (min m len * k))))) := by
  simp only [copyA, hy, hg, and_self, if_true]
  rw [if_pos ho]
theorem rd_str (S : St) (s : List UInt8) : rd S 1 (.str s) = some (s.length, s.map u8) := by simp [rd]
theorem rd_ref {S : St} {k id ver off len : Nat} {cells : List AV} (hg : S.get id = (ver, .row cells)) (ho : off + len * k ≤ cells.length) : rd S k (.ref id ver k off len) = some (len, (cells.drop off).take (len * k)) := by
  simp only [rd, hg, and_self, if_true, if_pos ho]
theorem rd_list {S : St} {k n : Nat} {fl : Bool} {cells : List AV} (h : cells.length = n * k) : rd S k (.list fl n cells) = some (n, cells) := by
  simp only [rd, if_pos h]

end Go.Proofs.YtnfiihdebonadaaGreatDoor.Abs
namespace Go.Proofs.YtnfiihdebonadaaGreatDoor.Abs
/-- 'and', where the first is plain. -/
def andT (a b : Prop) : Prop := a ∧ b
theorem andT_true (b : Prop) : andT True b = b := by simp [andT]

section
variable {P : Program} {W0 : World} {S0 : St} {Q : AExit → Env → St → Prop} {K : Env → St → Prop} {e : Env} {S : St} {la : List AOper} {clo : List (List Nat)}

/- What goes on, by name. -/
def atS (K : Env → St → Prop) (S : St) (e : Env) : Prop := K e S
theorem atS_eq : atS K S e = K e S := nr rfl
def atB (P : Program) (W0 : World) (la : List AOper) (clo : List (List Nat)) (bs : List (Nat × Plan)) (pins : List Nat) (K : Env → St → Prop) (S : St) (e : Env) : Prop := awpB P W0 la clo bs pins K e S
theorem atB_eq {bs : List (Nat × Plan)} {pins : List Nat} : atB P W0 la clo bs pins K S e = awpB P W0 la clo bs pins K e S := nr rfl
def pstepO (o : Option AOper) (F : Env → Prop) (e : Env) (S : St) : Prop := match o with | some o => pstep o F e S | none => False
theorem pstepO_some {o : AOper} {F : Env → Prop} : pstepO (some o) F e S = pstep o F e S := nr rfl
def pstepsC (la : List AOper) (is : List Nat) (F : Env → Prop) (S : St) (e : Env) : Prop := psteps la is F e S
theorem pstepsC_eq {is : List Nat} {F : Env → Prop} : pstepsC la is F S e = psteps la is F e S := nr rfl
def lookK (d : Option Nat) (F : Env → Prop) (e : Env) (S : St) (p : AV × St) : Prop := p.2 = S ∧ F (setD e d p.1)
theorem lookK_eq {d : Option Nat} {F : Env → Prop} {r : AV} : lookK d F e S (r, S) = F (setD e d r) := by simp [lookK]
def skipL (d : Option Nat) (F : Env → Prop) (e : Env) : Prop := F (setD e d (.tup []))
theorem skipL_eq {d : Option Nat} {F : Env → Prop} : skipL d F e = F (setD e d (.tup [])) := nr rfl
def effO (P : Program) (W0 : World) (o : Option AOper) (K : Env → St → Prop) (e : Env) (S : St) : Prop := match o with | some o => effG P W0 o K e S | none => False
theorem effO_some {o : AOper} : effO P W0 (some o) K e S = effG P W0 o K e S := nr rfl
def effK (P : Program) (W0 : World) (la : List AOper) (clo : List (List Nat)) (b : Nat) (p : Plan) (pins : List Nat) (K : Env → St → Prop) (e : Env) (S : St) : Prop := stillL la e S (pinsAfter clo b pins) ∧ awpT P W0 la clo p (pinsAfter clo b pins) K e S
theorem effK_eq {b : Nat} {p : Plan} {pins : List Nat} : effK P W0 la clo b p pins K e S = andT (stillL la e S (pinsAfter clo b pins)) (awpT P W0 la clo p (pinsAfter clo b pins) K e S) := nr rfl

theorem w_draw {plan : Plan} : awp P W0 S0 (.draw la clo plan) Q e S = awpT P W0 la clo plan [] (Q .normal) e S := nr rfl
theorem T_done {ps pins : List Nat} : awpT P W0 la clo (.done ps) pins K e S = psteps la ps (atS K S) e S := by simp only [awpT, atS]; rfl
theorem T_eff {ps pins : List Nat} {bs : List (Nat × Plan)} : awpT P W0 la clo (.eff ps bs) pins K e S = psteps la ps (atB P W0 la clo bs (pins ++ ps) K S) e S := by simp only [awpT]; rfl
theorem p_nil {F : Env → Prop} : psteps la [] F e S = F e := nr rfl
theorem p_cons {i : Nat} {is : List Nat} {F : Env → Prop} : psteps la (i :: is) F e S = pstepO la[i]? (pstepsC la is F S) e S := by
  simp only [psteps, pstepO]; cases la[i]? <;> rfl
theorem p_one {d : Option Nat} {op : AOp} {F : Env → Prop} : pstep ⟨d, op, none⟩ F e S = optK (ev op e S) (lookK d F e S) := nr rfl
/-- A step that only looks, where a guard stands. -/
def pgrd (v : AV) (b : Bool) (A B : Prop) : Prop := match gdec v b with | some true => A | some false => B | none => False
theorem pgrd_true (t : Bool) (A B : Prop) : pgrd (.bool t) true A B = IfK (t = true) A B := by cases t <;> simp [pgrd, gdec, IfK]
theorem pgrd_false (t : Bool) (A B : Prop) : pgrd (.bool t) false A B = IfK (t = true) B A := by cases t <;> simp [pgrd, gdec, IfK]
theorem pgrd_tup (l : List AV) (b : Bool) (A B : Prop) : pgrd (.tup l) b A B = B := nr rfl
theorem p_grd {d : Option Nat} {op : AOp} {t : Nat} {b : Bool} {F : Env → Prop} : pstep ⟨d, op, some (t, b)⟩ F e S = pgrd (e t) b (optK (ev op e S) (lookK d F e S)) (skipL d F e) := by
  simp only [pstep, pgrd]
  cases gdec (e t) b with
  | none => rfl
  | some c => cases c <;> rfl
theorem B_one {b : Nat} {p : Plan} {pins : List Nat} : awpB P W0 la clo [(b, p)] pins K e S = effO P W0 la[b]? (effK P W0 la clo b p pins K) e S := by
  simp only [awpB, and_true]; cases la[b]? <;> rfl
theorem B_two {b c : Nat} {p q : Plan} {r : List (Nat × Plan)} {pins : List Nat} : awpB P W0 la clo ((b, p) :: (c, q) :: r) pins K e S = ((effO P W0 la[b]? (effK P W0 la clo b p pins K) e S) ∧ awpB P W0 la clo ((c, q) :: r) pins K e S) := by
  conv => lhs; rw [awpB]
  simp only []
  cases la[b]? <;> rfl
theorem G_one {d : Option Nat} {op : AOp} : effG P W0 ⟨d, op, none⟩ K e S = aop P W0 ⟨d, op, none⟩ K e S := nr rfl
theorem G_grd {d : Option Nat} {op : AOp} {t : Nat} {b : Bool} : effG P W0 ⟨d, op, some (t, b)⟩ K e S = grdK (e t) b (aop P W0 ⟨d, op, none⟩ K) (skipK d K) e S := by
  simp only [effG, grdK]
  cases gdec (e t) b with
  | none => rfl
  | some c => cases c <;> rfl
theorem L_nil : stillL la e S [] = True := nr rfl
def stK (o : Option AOper) (e : Env) (S : St) : Prop := match o with | some o => Still o e S | none => True
theorem stK_some (o : AOper) : stK (some o) e S = Still o e S := nr rfl
theorem L_cons {i : Nat} {is : List Nat} : stillL la e S (i :: is) = andT (stK la[i]? e S) (stillL la e S is) := nr rfl
def lookE (d : Nat) (e : Env) (S : St) (p : AV × St) : Prop := p.2 = S ∧ e d = p.1
theorem lookE_eq {d : Nat} {r : AV} : lookE d e S (r, S) = (e d = r) := by simp [lookE]
theorem S_one {d : Nat} {op : AOp} : Still ⟨some d, op, none⟩ e S = optK (ev op e S) (lookE d e S) := by
  apply propext
  rw [optK_iff]
  constructor
  · rintro ⟨r, h1, h2⟩
    exact ⟨_, h1, rfl, h2 d rfl⟩
  · rintro ⟨⟨r, S'⟩, h1, h2, h3⟩
    simp only at h2 h3
    subst h2
    exact ⟨r, h1, fun d' hd => by cases hd; exact h3⟩
theorem S_grd {d t : Nat} {b : Bool} {op : AOp} : Still ⟨some d, op, some (t, b)⟩ e S = pgrd (e t) b (optK (ev op e S) (lookE d e S)) (e d = .tup []) := by
  apply propext
  unfold Still pgrd
  simp only
  constructor
  · rintro ⟨c, hc, h⟩
    rw [hc]
    rcases h with ⟨rfl, r, h1, h2⟩ | ⟨rfl, h2⟩
    · simp only; rw [optK_iff]; exact ⟨_, h1, rfl, h2 d rfl⟩
    · exact h2 d rfl
  · intro h
    cases hc : gdec (e t) b with
    | none => rw [hc] at h; exact h.elim
    | some c =>
      rw [hc] at h
      refine ⟨c, rfl, ?_⟩
      cases c with
      | true =>
        left
        simp only at h
        rw [optK_iff] at h
        obtain ⟨⟨r, S'⟩, h1, h2, h3⟩ := h
        simp only at h2 h3
        rw [h2] at h1
        exact ⟨rfl, r, h1, fun d' hd => by cases hd; exact h3⟩
      | false => exact .inr ⟨rfl, fun d' hd => by cases hd; exact h⟩
end

/- What operations that only look give. -/
section
variable {e : Env} {S : St}
theorem e_mv {x : Operand} : ev (.mv x) e S = some (evA e x, S) := nr rfl
def pairS (S : St) (r : Option AV) : Option (AV × St) := match r with | some a => some (a, S) | none => none
theorem pairS_some (a : AV) : pairS S (some a) = some (a, S) := nr rfl
theorem map_pair (r : Option AV) : r.map (fun r => (r, S)) = pairS S r := by cases r <;> rfl
def pickO (c a b : AV) : Option AV := match c with | .bool t => some (if t = true then a else b) | _ => none
def pickS (t : Bool) (a b : AV) : Option AV := some (if t = true then a else b)
theorem pickO_bool (t : Bool) (a b : AV) : pickO (.bool t) a b = pickS t a b := nr rfl
theorem optK_pickS (t : Bool) (a b : AV) (F : AV × St → Prop) : optK (pairS S (pickS t a b)) F = IfK (t = true) (F (a, S)) (F (b, S)) := by cases t <;> simp [pickS, pairS, optK, IfK]
theorem e_pick {c a b : Operand} : ev (.pick c a b) e S = pairS S (pickO (evA e c) (evA e a) (evA e b)) := by
  simp only [ev, pickO, pairS]; cases evA e c <;> rfl
theorem e_build {z : List Value} {ps : List (Nat × Nat × Operand)} : ev (.build z ps) e S = pairS S ((fillA (z.map AV.ofValue1) (evParts e ps)).map AV.agg) := by
  simp only [ev]; cases fillA (z.map AV.ofValue1) (evParts e ps) <;> rfl
theorem e_bslice {n : Nat} {z : List Value} {ps : List (Nat × Nat × Operand)} : ev (.bslice n z ps) e S = pairS S ((fillA (z.map AV.ofValue1) (evParts e ps)).map (AV.list true n)) := by
  simp only [ev]; cases fillA (z.map AV.ofValue1) (evParts e ps) <;> rfl
theorem e_load {n : Nat} {ag : Bool} {x : Operand} : ev (.load n ag x) e S = pairS S (loadA S n ag (evA e x)) := map_pair _
theorem e_nilchk {x : Operand} : ev (.nilchk x) e S = pairS S (nilchkA S (evA e x)) := map_pair _
theorem e_bin {kd : EqK} {op : BinOp} {x y : Operand} : ev (.bin kd op x y) e S = pairS S (binA S kd op (evA e x) (evA e y)) := map_pair _
theorem e_un {op : UnOp} {x : Operand} : ev (.un op x) e S = pairS S (unA op (evA e x)) := map_pair _
theorem e_convI {k : IntKind} {x : Operand} : ev (.convI k x) e S = pairS S (convIA k (evA e x)) := map_pair _
theorem e_convSS {x : Operand} : ev (.convSS x) e S = pairS S (strO (evA e x) AV.str) := by
  simp only [ev, strO, pairS]; cases evA e x <;> rfl
theorem e_convSB {x : Operand} : ev (.convSB x) e S = pairS S (strO (evA e x) fun s => .list false s.length (s.map u8)) := by
  simp only [ev, strO, pairS]; cases evA e x <;> rfl
theorem e_convBS {x : Operand} : ev (.convBS x) e S = pairS S (convBSA S (evA e x)) := by
  simp only [ev, convBSA]
  generalize evA e x = y
  have gen : ∀ z : Option (Nat × List AV), (z.bind fun p => (bytesOf p.2).map fun s => (AV.str s, S)) = pairS S (z.bind fun p => (bytesOf p.2).map AV.str) := by
    intro z
    cases z with
    | none => rfl
    | some p => simp only [Option.bind_some]; cases bytesOf p.2 <;> rfl
  cases y <;> first | rfl | exact gen _
theorem e_mkI {T : TypeId} {x : Operand} : ev (.mkI T x) e S = some (.iface T (evA e x), S) := nr rfl
theorem e_mkF {fn : Fn} {a b : List Operand} : ev (.mkF fn a b) e S = some (.clo fn (a.map (evA e)) (b.map (evA e)), S) := nr rfl
theorem e_slice {k : Nat} {x : Operand} {lo hi : Option Operand} : ev (.slice k x lo hi) e S = pairS S (sliceS S k (evA e x) (evOpt e lo) (evOpt e hi)) := map_pair _
theorem e_sliceStr {x : Operand} {lo hi : Option Operand} : ev (.sliceStr x lo hi) e S = pairS S (sliceStr (evA e x) (evOpt e lo) (evOpt e hi)) := map_pair _
theorem e_faddr {off : Nat} {x : Operand} : ev (.faddr off x) e S = pairS S (faddrA S off (evA e x)) := map_pair _
theorem e_iaddr {k : Nat} {x i : Operand} : ev (.iaddr k x i) e S = pairS S (iaddrA S k (evA e x) (evA e i)) := map_pair _
theorem e_idx {x i : Operand} : ev (.idx x i) e S = pairS S (idxA (evA e x) (evA e i)) := map_pair _
theorem e_extract {i : Nat} {x : Operand} : ev (.extract i x) e S = pairS S (tupO (evA e x) i) := by
  simp only [ev, tupO]
  generalize evA e x = y
  cases y <;> first | rfl | (rename_i xs; simp only []; cases xs[i]? <;> rfl)
theorem e_field {off n : Nat} {ag : Bool} {x : Operand} : ev (.field off n ag x) e S = pairS S (aggO (evA e x) off n ag) := by
  simp only [ev, aggO]
  generalize evA e x = y
  cases y <;> first | rfl | (rename_i xs; simp only []; cases sliceA xs off n ag <;> rfl)
theorem e_lenS {x : Operand} : ev (.lenS x) e S = pairS S (strO (evA e x) fun s => .int .i64 s.length) := by
  simp only [ev, lenSA, strO]; cases evA e x <;> rfl
theorem e_lenL {x : Operand} : ev (.lenL x) e S = pairS S (lenLA S (evA e x)) := map_pair _
theorem e_min {x y : Operand} : ev (.min x y) e S = pairS S (minA (evA e x) (evA e y)) := map_pair _
theorem e_max {x y : Operand} : ev (.max x y) e S = pairS S (maxA (evA e x) (evA e y)) := map_pair _
end

end Go.Proofs.YtnfiihdebonadaaGreatDoor.Abs
namespace Go.Proofs.YtnfiihdebonadaaGreatDoor.Abs

theorem Br_pos {p : Prop} {_ : Decidable p} {F G : Env → St → Prop} {e : Env} {S : St} (h : p) (hf : F e S) : Br (decide p) F G e S := by
  simp only [Br, decide_eq_true_eq, decide_eq_false_iff_not]; exact ⟨fun _ => hf, fun h' => absurd h h'⟩
theorem Br_neg {p : Prop} {_ : Decidable p} {F G : Env → St → Prop} {e : Env} {S : St} (h : ¬ p) (hf : G e S) : Br (decide p) F G e S := by
  simp only [Br, decide_eq_true_eq, decide_eq_false_iff_not]; exact ⟨fun h' => absurd h' h, fun _ => hf⟩

theorem IfK_pos {c A B : Prop} (h : c) (ha : A) : IfK c A B := ⟨fun _ => ha, fun h' => absurd h h'⟩
theorem IfK_neg {c A B : Prop} (h : ¬ c) (hb : B) : IfK c A B := ⟨fun h' => absurd h' h, fun _ => hb⟩
theorem IfK_bf {b : Bool} {A B : Prop} (h : b = false) (hb : B) : IfK (b = true) A B := ⟨fun h' => absurd (h.symm.trans h') (by decide), fun _ => hb⟩
theorem IfK_dec {c A B : Prop} (ha : c → A) (hb : ¬ c → B) : IfK c A B := ⟨ha, hb⟩
theorem Br_bt {b : Bool} {F G : Env → St → Prop} {e : Env} {S : St} (h : b = true) (hf : F e S) : Br b F G e S := by subst h; rw [Br_true]; exact hf
theorem Br_bf {b : Bool} {F G : Env → St → Prop} {e : Env} {S : St} (h : b = false) (hg : G e S) : Br b F G e S := by subst h; rw [Br_false]; exact hg
theorem Br_b {b : Bool} {F G : Env → St → Prop} {e : Env} {S : St} (hf : b = true → F e S) (hg : b = false → G e S) : Br b F G e S := ⟨hf, hg⟩
/-- What is done with m elements, if there are any. -/
def someK {α : Type} (m : Nat) (a b : α) : α := if m = 0 then a else b
theorem someK_lit {α : Type} (m : Nat) (a b : α) : someK (m + 1) a b = b := by simp [someK]
theorem someK_pos {α : Type} {m : Nat} (h : 0 < m) (a b : α) : someK m a b = b := by simp [someK]; omega
theorem optK_someK {α : Type} (m : Nat) (a b : Option α) (F : α → Prop) : optK (someK m a b) F = IfK (m = 0) (optK a F) (optK b F) := by
  unfold someK IfK
  by_cases h : m = 0 <;> simp [h]

/-- Bytes laid over bytes. -/
def putB (l : List UInt8) (o : Nat) (s : List UInt8) : List UInt8 := l.take o ++ s ++ l.drop (o + s.length)
theorem len_putB (l : List UInt8) (o : Nat) (s : List UInt8) : (putB l o s).length = min o l.length + s.length + (l.length - (o + s.length)) := by simp [putB]; omega
theorem m_take (l : List UInt8) (n : Nat) : (l.map u8).take n = (l.take n).map u8 := by simp
theorem m_drop (l : List UInt8) (n : Nat) : (l.map u8).drop n = (l.drop n).map u8 := by simp
theorem m_app (l r : List UInt8) : l.map u8 ++ r.map u8 = (l ++ r).map u8 := by simp
theorem m_app1 {l : List UInt8} {n : Nat} (h : n < 256) : l.map u8 ++ [.int .u8 (n : Int)] = (l ++ [UInt8.ofNat n]).map u8 := by
  simp [u8, Nat.mod_eq_of_lt h]
theorem m_put {l s : List UInt8} {o : Nat} (h : o + s.length ≤ l.length) : putC (l.map u8) o (s.map u8) = (putB l o s).map u8 := by
  rw [putC_eq _ _ _ (by simpa using h)]; simp [putB]
theorem u8_lit {n : Nat} (h : n < 256) : AV.int .u8 (n : Int) = u8 (UInt8.ofNat n) := by simp [u8, Nat.mod_eq_of_lt h]
theorem m_set {l : List UInt8} {o n : Nat} (h : n < 256) : (l.map u8).set o (.int .u8 (n : Int)) = (l.set o (UInt8.ofNat n)).map u8 := by
  rw [u8_lit h, List.map_set]
theorem m_rep (n : Nat) : (repZ [.int .u8 0] n).map AV.ofValue1 = (List.replicate n (0 : UInt8)).map u8 := by
  induction n with
  | zero => rfl
  | succ n ih =>
    have : repZ [Value.int .u8 0] (n + 1) = .int .u8 0 :: repZ [.int .u8 0] n := by simp [repZ, List.replicate_succ]
    rw [this, List.map_cons, ih, List.replicate_succ, List.map_cons]; rfl
theorem m_get (l : List UInt8) (i : Nat) : (l.map u8)[i]? = (l[i]?).map u8 := by simp
theorem m_len (l : List UInt8) : (l.map u8).length = l.length := by simp

/- Slices: what is appended, what is copied. -/
theorem rd_s (S : St) (s : List UInt8) : rd S 1 (.str s) = some (s.length, s.map u8) := by simp [rd]
theorem rd_l {S : St} {k n : Nat} {fl : Bool} {cells : List AV} (h : cells.length = n * k) : rd S k (.list fl n cells) = some (n, cells) := by
  simp only [rd, if_pos h]
theorem rd_r (S : St) (k id ver off len : Nat) : rd S k (.ref id ver k off len) = cellK (S.get id) ver fun cells => if off + len * k ≤ cells.length then some (len, (cells.drop off).take (len * k)) else none := by
  simp only [rd, cellK]
  cases hg : S.get id with
  | mk v b => cases b <;> simp
theorem app_eq (S : St) (k b : Nat) (x y : AV) : appendA S k b x y = (rd S k y).bind fun p => appendC S k b x p.1 p.2 := by
  unfold appendA; cases rd S k y <;> rfl
theorem appZ_eq {S : St} {k b : Nat} {z : List Value} {x : AV} {kk : IntKind} {n : Int} (h : 0 ≤ n ∧ n ≤ 9223372036854775807 ∧ n * b ≤ 140737488355328) : appendZA S k b z x (.int kk n) = appendC S k b x n.toNat ((repZ z n.toNat).map AV.ofValue1) := by
  simp only [appendZA, if_pos h]
theorem appC_list (S : St) (k b n m : Nat) (cells ys : List AV) : appendC S k b (.list true n cells) m ys = someK m (some (.list true n cells, S)) (if cells.length = n * k ∧ (n + m) * b ≤ 140737488355328 ∧ n + m ≤ 9223372036854775807 then some (.ref S.len 0 k 0 (n + m), S.pushv 0 (.row (cells ++ ys))) else none) := by
  unfold appendC someK; rfl
theorem appC_ref (S : St) (k b id ver off len m : Nat) (ys : List AV) : appendC S k b (.ref id ver k off len) m ys = cellK (S.get id) ver fun cells => if off + len * k ≤ cells.length ∧ (len + m) * b ≤ 140737488355328 ∧ len + m ≤ 9223372036854775807 then some (.ref id (ver + 1) k 0 (len + m), S.put id (ver + 1, .row ((cells.drop off).take (len * k) ++ ys))) else none := by
  simp only [appendC, cellK]
  cases hg : S.get id with
  | mk v b => cases b <;> simp
theorem copy_eq (S : St) (k id ver off len : Nat) (y : AV) : copyA S k (.ref id ver k off len) y = (rd S k y).bind fun p => cellK (S.get id) ver fun cells => if off + len * k ≤ cells.length then some (.int .i64 (min p.1 len : Nat), S.put id (ver, .row (putC cells off (p.2.take (min p.1 len * k))))) else none := by
  simp only [copyA, cellK]
  cases rd S k y with
  | none => rfl
  | some p =>
    cases hg : S.get id with
    | mk v b => cases b <;> simp [hg]

section
variable {P : Program} {W0 : World} {S0 : St}
/-- Rounds of a loop, one by one. -/
def rounds (P : Program) (W0 : World) (S0 : St) (b : ACode) (Q : AExit → Env → St → Prop) : Nat → Env → St → Prop
  | 0, _, _ => False
  | n + 1, e, S => awp P W0 S0 b (thenA (rounds P W0 S0 b Q n) Q) e S
theorem rounds_succ {b : ACode} {Q : AExit → Env → St → Prop} {n : Nat} {e : Env} {S : St} : rounds P W0 S0 b Q (n + 1) e S = awp P W0 S0 b (thenA (rounds P W0 S0 b Q n) Q) e S := nr rfl
theorem awp_rounds {b : ACode} {Q : AExit → Env → St → Prop} {e : Env} {S : St} (n : Nat) (h : rounds P W0 S0 b Q n e S) : awp P W0 S0 (.loop b) Q e S := by
  refine ⟨fun n e S => rounds P W0 S0 b Q n e S, ⟨n, e, S, h, .inl ⟨rfl, rfl⟩⟩, ?_⟩
  intro n e S h
  cases n with
  | zero => exact h.elim
  | succ n =>
    refine awp_mono b ?_ h
    rintro (_ | id | _) e1 S1 hq
    · exact ⟨n, e1, S1, by omega, hq, .inl ⟨rfl, rfl⟩⟩
    · exact hq
    · exact hq
end

theorem b_exit_ne {Q : AExit → Env → St → Prop} {id i : Nat} (h : i ≠ id) : inBlockA id Q (.exit i) = Q (.exit i) := by funext e S; simp [inBlockA, h]
theorem s_eql (a b : List UInt8) : strBin .eql a b = some (.bool (decide (a = b))) := nr rfl
theorem s_neq (a b : List UInt8) : strBin .neq a b = some (.bool (decide (a ≠ b))) := nr rfl
theorem s_add {a b : List UInt8} (h : a.length + b.length ≤ 9223372036854775807) : strBin .add a b = some (.str (a ++ b)) := by simp only [strBin, if_pos h]
theorem shl8 {x : Int} (h : -36028797018963968 ≤ x ∧ x < 36028797018963968) : shlI .i64 x 8 = 256 * x := by
  have : (2 : Int) ^ (min (8 : Int).toNat IntKind.i64.bits) = 256 := by decide
  rw [shlI, this, wrap64 (by omega)]; omega
theorem or8 {x b : Int} (h : -36028797018963968 ≤ x ∧ x < 36028797018963968) (hb : 0 ≤ b ∧ b < 256) : bitsI .or .i64 (256 * x) b = 256 * x + b := by
  obtain ⟨b, rfl⟩ := Int.eq_ofNat_of_zero_le hb.1
  have e1 : (BitVec.ofInt 64 (256 * x)).toNat = 256 * (x % 72057594037927936).toNat := by
    rw [BitVec.toNat_ofInt]; omega
  have e2 : (BitVec.ofInt 64 (b : Int)).toNat = b := by rw [BitVec.toNat_ofInt]; omega
  have e3 : (256 * (x % 72057594037927936).toNat ||| b) = 256 * (x % 72057594037927936).toNat + b := by
    have := @Nat.two_pow_add_eq_or_of_lt 8 b (by omega) (x % 72057594037927936).toNat
    rw [show (2 : Nat) ^ 8 = 256 from rfl] at this
    exact this.symm
  have e4 : (BitVec.ofInt 64 (256 * x) ||| BitVec.ofInt 64 (b : Int)).toNat = 256 * (x % 72057594037927936).toNat + b := by
    rw [BitVec.toNat_or, e1, e2, e3]
  have e5 : bitsI .or .i64 (256 * x) b = IntKind.i64.wrap ((256 * (x % 72057594037927936).toNat + b : Nat) : Int) := congrArg (fun n : Nat => IntKind.i64.wrap (n : Int)) e4
  rw [e5]
  simp only [IntKind.wrap, IntKind.bits, IntKind.signed]
  simp
  omega
/-- Bytes in a block of their own, made by a call. -/
structure NewBytes (S S' : St) (id : Nat) (l : List UInt8) : Prop where
  le : S.le S'
  wf : S'.wf
  ge : S.len ≤ id
  lt : id < S'.len
  get : S'.get id = (0, .row (l.map u8))
theorem take_min {α : Type} {l : List α} {n : Nat} (h : l.length ≤ n) : l.take (min l.length n) = l := List.take_of_length_le (by omega)
theorem take_all {α : Type} {l : List α} {n : Nat} (h : l.length ≤ n) : l.take n = l := List.take_of_length_le h
theorem bytes_ref {S : St} {id ver n : Nat} {l : List UInt8} (hg : S.get id = (ver, .row (l.map u8))) (hn : l.length = n) : Bytes S (.ref id ver 1 0 n) l := by
  refine ⟨rfl, ?_⟩
  rw [rd_ref hg (by rw [List.length_map]; omega), List.drop_zero, Nat.mul_one, List.take_of_length_le (by rw [List.length_map]; omega), hn]
/-- The address of a field of an element. -/
def eltF (k : Nat) (x : AV) (j o : Nat) : AV := match x with
  | .list _ _ cells => .eptr cells (j * k + o)
  | .ref id ver _ off _ => .ptr id ver (off + j * k + o)
  | _ => .undef
theorem Holds.faddr {S : St} {k n : Nat} {x : AV} {cells : List AV} (h : Holds S k x n cells) (j o : Nat) : faddrA S o (eltA k x j) = some (eltF k x j o) := by
  obtain ⟨h1, h2⟩ := h
  cases x <;> simp only [AV.isSl] at h1 <;> first | cases h1 | skip
  case list fl m c => rfl
  case ref id ver k' off len =>
    simp only [rd] at h2; split at h2
    · rename_i hc
      simp only [eltA, faddr_ptr, verK, hc.1, if_true, eltF]
    · cases h2
theorem Holds.loadF {S : St} {k n : Nat} {x : AV} {cells : List AV} (h : Holds S k x n cells) {j o m : Nat} {ag : Bool} : j * k + o + (if ag = true then m else 1) ≤ cells.length → loadA S m ag (eltF k x j o) = sliceA cells (j * k + o) m ag := by
  intro hj
  obtain ⟨h1, h2⟩ := h
  cases x <;> simp only [AV.isSl] at h1 <;> first | cases h1 | skip
  case list fl m c =>
    simp only [rd] at h2; split at h2
    · cases h2; rfl
    · cases h2
  case ref id ver k' off ln =>
    simp only [rd] at h2; split at h2
    · rename_i hc
      split at h2
      · rename_i c hcell
        split at h2
        · rename_i hle
          cases h2
          simp only [eltF, loadA, hc.1, if_true, hcell]
          simp only [List.length_take, List.length_drop] at hj
          cases ag with
          | true =>
            simp only [if_true] at hj
            have e1 : off + j * k + o + m ≤ c.length := by omega
            have e2 : j * k + o + m ≤ ((c.drop off).take (n * k)).length := by simp; omega
            simp only [sliceA, if_true, if_pos e1, if_pos e2]
            congr 2
            rw [List.drop_take, List.take_take, List.drop_drop, Nat.min_eq_left (by omega)]
            congr 2
            omega
          | false =>
            simp only [Bool.false_eq_true, if_false] at hj
            simp only [sliceA, Bool.false_eq_true, if_false]
            rw [List.getElem?_take, if_pos (by omega), List.getElem?_drop]
            congr 1
            omega
        · cases h2
      · cases h2
    · cases h2
theorem Holds.loadF1 {S : St} {k n : Nat} {x : AV} {cells : List AV} (h : Holds S k x n cells) {j o m : Nat} (hj : j * k + o < cells.length) : loadA S m false (eltF k x j o) = cells[j * k + o]? := by
  rw [h.loadF (by simp only [Bool.false_eq_true, if_false]; omega)]; rfl
theorem Holds.loadAg {S : St} {k n : Nat} {x : AV} {cells : List AV} (h : Holds S k x n cells) {j m : Nat} (hj : j * k + m ≤ cells.length) : loadA S m true (eltA k x j) = some (.agg ((cells.drop (j * k)).take m)) := by
  rw [h.load (by simp only [if_true]; omega), slice_agg hj]
theorem Holds.at {S S' : St} {k n : Nat} {x : AV} {cells : List AV} (h : Holds S k x n cells) (hu : x.under S.len = true) (hle : S.le S') : Holds S' k x n cells :=
  h.keep fun id hid => hle.2 id (by cases x <;> simp only [AV.names] at hid <;> subst hid <;> simpa [AV.under] using hu)
theorem Bytes.at {S S' : St} {x : AV} {l : List UInt8} (h : Bytes S x l) (hu : x.under S.len = true) (hle : S.le S') : Bytes S' x l := Holds.at h hu hle
theorem Bytes.slice_at {S : St} {x : AV} {l : List UInt8} (h : Bytes S x l) (hu : x.under S.len = true) {S' : St} {k : IntKind} {lo hi : Int} : S.le S' → 0 ≤ lo ∧ lo ≤ hi ∧ hi ≤ l.length → sliceS S' 1 x (some (.int k lo)) (some (.int k hi)) = some (subA 1 x lo.toNat hi.toNat) := by
  intro hle hb
  exact Holds.sub (h.at hu hle) (bnd_ok (by omega)) (bnd_ok (by omega))
theorem Bytes.slice_to {S : St} {x : AV} {l : List UInt8} (h : Bytes S x l) (hu : x.under S.len = true) {S' : St} {k : IntKind} {hi : Int} : S.le S' → 0 ≤ hi ∧ hi ≤ l.length → sliceS S' 1 x none (some (.int k hi)) = some (subA 1 x 0 hi.toNat) := by
  intro hle hb
  exact Holds.sub (h.at hu hle) (bnd_ok (by omega)) (bnd_no _ _)
theorem Bytes.slice_from {S : St} {x : AV} {l : List UInt8} (h : Bytes S x l) (hu : x.under S.len = true) {S' : St} {k : IntKind} {lo : Int} : S.le S' → 0 ≤ lo ∧ lo ≤ l.length → sliceS S' 1 x (some (.int k lo)) none = some (subA 1 x lo.toNat l.length) := by
  intro hle hb
  exact Holds.sub (h.at hu hle) (bnd_no _ _) (bnd_ok (by omega))
theorem Bytes.conv_at {S : St} {x : AV} {l : List UInt8} (h : Bytes S x l) (hu : x.under S.len = true) {S' : St} {lo hi : Nat} : S.le S' → lo ≤ hi ∧ hi ≤ l.length → convBSA S' (subA 1 x lo hi) = some (.str ((l.drop lo).take (hi - lo))) := by
  intro hle hb
  exact ((h.at hu hle).subB hb.1 hb.2).conv
theorem Bytes.len_at {S : St} {x : AV} {l : List UInt8} (h : Bytes S x l) (hu : x.under S.len = true) {S' : St} : S.le S' → lenLA S' x = some (.int .i64 l.length) := fun hle => (h.at hu hle).len
theorem Bytes.iaddr_at {S : St} {x : AV} {l : List UInt8} (h : Bytes S x l) (hu : x.under S.len = true) {S' : St} {kk : IntKind} {i : Int} : S.le S' → 0 ≤ i ∧ i < l.length → iaddrA S' 1 x (.int kk i) = some (eltA 1 x i.toNat) := fun hle hi => (h.at hu hle).iaddr hi
theorem Bytes.load_at {S : St} {x : AV} {l : List UInt8} (h : Bytes S x l) (hu : x.under S.len = true) {S' : St} {j : Nat} : S.le S' → j < l.length → loadA S' 1 false (eltA 1 x j) = some (.int .u8 (l.getD j 0).toNat) := fun hle hj => (h.at hu hle).load hj
theorem Bytes.rd_at {S : St} {x : AV} {l : List UInt8} (h : Bytes S x l) (hu : x.under S.len = true) {S' : St} : S.le S' → rd S' 1 x = some (l.length, l.map u8) := fun hle => (h.at hu hle).2
theorem idx_str {s : List UInt8} {k : IntKind} {i : Int} (h : 0 ≤ i ∧ i < s.length) : idxA (.str s) (.int k i) = some (.int .u8 (s.getD i.toNat 0).toNat) := by
  have : i.toNat < s.length := by omega
  simp [idxA, idx_ok h, this]
theorem frz_own {S : St} {m n id ver k len : Nat} {cells : List AV} (hm : m ≤ id) (hg : S.get id = (ver, .row cells)) (hl : cells.length = len * k) (hu : underL m cells = true) : frz S m (n + 1) (.ref id ver k 0 len) = .list false len cells := by
  have e1 : cells.map (frz S m n) = cells := by
    have := (underL_iff m cells).1 hu
    rw [List.map_congr_left (g := fun x => x)]
    · simp
    · intro x hx; exact frz_under _ _ _ _ (this x hx)
  simp only [frz, hg]
  rw [if_pos ⟨hm, trivial⟩, if_pos (by omega), List.drop_zero, List.take_of_length_le (by omega), e1]
/-- A call leaves with a slice that it has made, told by what it holds, and one more value. -/
theorem ret_own2 {S S' : St} {Q : AV → St → Prop} {id ver k len : Nat} {b : AV} {cells : List AV} (hle : S.le S') (hm : S.len ≤ id) (hg : S'.get id = (ver, .row cells)) (hl : cells.length = len * k) (hu : underL S.len cells = true) (hb : b.under S.len = true) (hQ : Q (.tup [.list false len cells, b]) S) : retV (.tup [.ref id ver k 0 len, b]) S Q S' := by
  refine ret_none hle (v' := .tup [.list false len cells, b]) ?_ ?_ hQ
  · show AV.tup ([AV.ref id ver k 0 len, b].map (frz S' S.len 3)) = _
    rw [List.map_cons, List.map_cons, List.map_nil, frz_own hm hg hl hu, frz_under _ _ _ _ hb]
  · simp [AV.under, underL, hu, hb]
theorem ret_own1 {S S' : St} {Q : AV → St → Prop} {id ver k len : Nat} {cells : List AV} (hle : S.le S') (hm : S.len ≤ id) (hg : S'.get id = (ver, .row cells)) (hl : cells.length = len * k) (hu : underL S.len cells = true) (hQ : Q (.list false len cells) S) : retV (.ref id ver k 0 len) S Q S' :=
  ret_none hle (frz_own hm hg hl hu) (by simpa [AV.under] using hu) hQ
theorem min_int (k k' : IntKind) (a b : Int) : minA (.int k a) (.int k' b) = some (.int k (if b < a then b else a)) := nr rfl
theorem max_int (k k' : IntKind) (a b : Int) : maxA (.int k a) (.int k' b) = some (.int k (if a < b then b else a)) := nr rfl
theorem trunc_all {S : St} {m : Nat} (h : S.len ≤ m) : S.trunc m = S := St.trunc_ge S h
/-- A call leaves, with blocks up to m; what it gives is told without them. -/
theorem ret_cut {S S' : St} {Q : AV → St → Prop} {v : AV} (m : Nat) (hle : S.le S') (hm : S.len ≤ m) (hm' : m ≤ S'.len) (hu : v.under m = true) (hb : ∀ i, S.len ≤ i → i < m → (S'.get i).2.under m = true) (hQ : Q v (S'.trunc m)) : retV v S Q S' :=
  ret_at m hle hm hm' (frz_under _ _ _ _ hu) hu hb hQ
theorem ret_x {S S' : St} {Q : AV → St → Prop} {v : AV} (hle : S.le S') (hu : v.under S.len = true) (hQ : Q v S) : retV v S Q S' :=
  ret_none hle (frz_under _ _ _ _ hu) hu hQ
/-- .. with one block more. -/
theorem ret_1 {S S' : St} {Q : AV → St → Prop} {v : AV} {b : Nat × Blk} (hle : S.le S') (hm' : S.len + 1 ≤ S'.len) (hu : v.under (S.len + 1) = true) (hb : S'.get S.len = b) (hbu : b.2.under (S.len + 1) = true) (hQ : Q v (S'.trunc (S.len + 1))) : retV v S Q S' :=
  ret_cut (S.len + 1) hle (by omega) hm' hu (fun i h1 h2 => by have : i = S.len := by omega
                                                               subst this; rw [hb]; exact hbu) hQ
theorem ret_none' {S S' : St} {Q : AV → St → Prop} {v v' : AV} (hle : S.le S') (hf : frz S' S.len 4 v = v') (hu : v'.under S.len = true) (hQ : Q v' S) : retV v S Q S' := ret_none hle hf hu hQ

/-- A call of the model's own kind, that leaves the world as it was. -/
theorem Gives.of_calls {P : Program} {W0 : World} {f : FuncId} {args : List AV} {S : St} {r : AV}
    (h : ∀ (ρ : Ghost) (w : World) (vs : Array Value), SRel W0 ρ S w → ARel ρ S w args vs → ∃ v, VRel ρ S w r v ∧ Calls P f vs w fun e w' => e = .returned v ∧ w' = w) : Gives P W0 f args S r := by
  intro ρ w vs hs ha
  obtain ⟨v, hv, hc⟩ := h ρ w vs hs ha
  refine hc.mono ?_
  rintro e w' ⟨rfl, rfl⟩
  exact ⟨r, v, ρ, S, rfl, hv, hs, .refl _ _ _, rfl, rfl⟩

end Go.Proofs.YtnfiihdebonadaaGreatDoor.Abs
