import Derived.Test.YtnfiihdebonadaaGreatDoorZOps3
import Derived.Laws.BytesString
set_option linter.unusedSimpArgs false
set_option linter.unusedVariables false
set_option linter.unusedSectionVars false
namespace Go.Proofs.YtnfiihdebonadaaGreatDoor.Abs
section
variable {P : Program} {W0 : World} {ρ : Ghost} {S : St} {w : World}

/-- Bounds of a cut: low, high. -/
def bnd (y : Nat) : Option AV → Nat → Option Nat
  | none, d => some d
  | some (.int _ i), _ => if 0 ≤ i ∧ i ≤ y then some i.toNat else none
  | some _, _ => none

def OVRel (ρ : Ghost) (S : St) (w : World) : Option AV → Option Value → Prop
  | none, none => True
  | some x, some v => VRel ρ S w x v
  | _, _ => False

theorem bnd_some {y d l : Nat} {x : AV} {v : Value} (hx : VRel ρ S w x v) (h : bnd y (some x) d = some l) (c : BoundsCode) : (Instr.sliceBound v y c).run P w = .ok l w ∧ l ≤ y := by
  cases hx with
  | int k i =>
    simp only [bnd] at h
    split at h
    · rename_i hi
      cases h
      exact ⟨by simp [Instr.sliceBound, asIntOf, hi.1, hi.2], by omega⟩
    · cases h
  | _ => simp [bnd] at h

theorem bounds_sound {isS : Bool} {len cap l h : Nat} {lo hi : Option AV} {lo' hi' : Option Value} (rl : OVRel ρ S w lo lo') (rh : OVRel ρ S w hi hi') (hlc : len ≤ cap) (hh : bnd len hi len = some h) (hl : bnd h lo 0 = some l) :
    (Instr.sliceBounds isS len cap lo' hi' none).run P w = .ok (l, h, cap) w ∧ l ≤ h ∧ h ≤ len := by
  have e1 : h ≤ len ∧ ∀ c, (match hi', (none : Option Value) with
      | some v, some _ => Instr.sliceBound v cap .slice3B
      | some v, none => Instr.sliceBound v cap c
      | none, none => pure len
      | none, some _ => stuck "Slice: max without high").run P w = .ok h w := by
    cases hi with
    | none =>
      cases hi' with
      | none => simp [bnd] at hh; subst hh; exact ⟨Nat.le_refl _, fun _ => rfl⟩
      | some v => exact rh.elim
    | some x =>
      cases hi' with
      | none => exact rh.elim
      | some v =>
        obtain ⟨_, g2⟩ := bnd_some (P := P) rh hh .index
        have hh' : bnd cap (some x) len = some h := by
          cases x <;> simp only [bnd] at hh ⊢ <;> (try cases hh)
          split at hh
          · rename_i hi0
            rw [if_pos (by omega)]; exact hh
          · cases hh
        exact ⟨g2, fun c => (bnd_some (P := P) rh hh' c).1⟩
  have e2 : l ≤ h ∧ (match lo' with
      | some v => Instr.sliceBound v h (if (none : Option Value).isSome then .slice3C else .sliceB)
      | none => pure 0).run P w = .ok l w := by
    cases lo with
    | none =>
      cases lo' with
      | none => simp [bnd] at hl; subst hl; exact ⟨Nat.zero_le _, rfl⟩
      | some v => exact rl.elim
    | some x =>
      cases lo' with
      | none => exact rl.elim
      | some v =>
        obtain ⟨g1, g2⟩ := bnd_some (P := P) rl hl .sliceB
        exact ⟨g2, g1⟩
  refine ⟨?_, e2.1, e1.1⟩
  have g1 := e1.2 (if isS then .sliceAcap else .sliceAlen)
  have g2 := e2.2
  simp only [Instr.sliceBounds, Sem.run_bind, Sem.run_pure, Result.andThen_ok]
  cases hi' <;> cases lo' <;> simp_all

theorem bounds3_sound {len cap l h m : Nat} {lo : Option AV} {hi mx : AV} {lo' : Option Value} {hi' mx' : Value} (rl : OVRel ρ S w lo lo') (rh : VRel ρ S w hi hi') (rm : VRel ρ S w mx mx') (hlc : len ≤ cap)
    (hm : bnd len (some mx) 0 = some m) (hh : bnd m (some hi) 0 = some h) (hl : bnd h lo 0 = some l) :
    (Instr.sliceBounds true len cap lo' (some hi') (some mx')).run P w = .ok (l, h, m) w ∧ l ≤ h ∧ h ≤ m ∧ m ≤ len := by
  obtain ⟨_, g0⟩ := bnd_some (P := P) rm hm .index
  have hm' : bnd cap (some mx) 0 = some m := by
    cases mx <;> simp only [bnd] at hm ⊢ <;> (try cases hm)
    split at hm
    · rename_i hi0
      rw [if_pos (by omega)]; exact hm
    · cases hm
  have g1 := (bnd_some (P := P) rm hm' .slice3Acap).1
  obtain ⟨g2, g3⟩ := bnd_some (P := P) rh hh .slice3B
  have e2 : l ≤ h ∧ (match lo' with
      | some v => Instr.sliceBound v h .slice3C
      | none => pure 0).run P w = .ok l w := by
    cases lo with
    | none =>
      cases lo' with
      | none => simp [bnd] at hl; subst hl; exact ⟨Nat.zero_le _, rfl⟩
      | some v => exact rl.elim
    | some x =>
      cases lo' with
      | none => exact rl.elim
      | some v =>
        obtain ⟨g1, g2⟩ := bnd_some (P := P) rl hl .slice3C
        exact ⟨g2, g1⟩
  refine ⟨?_, e2.1, g3, g0⟩
  have g4 := e2.2
  simp only [Instr.sliceBounds, Sem.run_bind]
  cases lo' <;> simp_all

/-- A cut of a slice. -/
def sliceS (S : St) (k : Nat) (x : AV) (lo hi : Option AV) : Option AV :=
  match x with
  | .list fl n cells => (bnd n hi n).bind fun h => (bnd h lo 0).bind fun l => if cells.length = n * k then some (.list (fl && decide (h = n)) (h - l) ((cells.drop (l * k)).take ((h - l) * k))) else none
  | .ref id ver k' off len => if (S.get id).1 = ver ∧ k' = k then (bnd len hi len).bind fun h => (bnd h lo 0).map fun l => .ref id ver k (off + l * k) (h - l) else none
  | _ => none

theorem slice_sound (h : SRel W0 ρ S w) {T e : TypeId} {k : Nat} {x r : AV} {lo hi : Option AV} {v : Value} {lo' hi' : Option Value} (hu : P.underlying T = some (.slice e)) (hk : tySize P e = some k) (hx : VRel ρ S w x v)
    (rl : OVRel ρ S w lo lo') (rh : OVRel ρ S w hi hi') (he : sliceS S k x lo hi = some r) : Res P W0 ρ S w (Instr.sliceAt T v lo' hi' none) r S := by
  cases hx with
  | list fl n cells addr cap cs hn hfl ha h1 hh =>
    simp only [sliceS, Option.bind_eq_some_iff] at he
    obtain ⟨hb, hhb, lb, hlb, he⟩ := he
    split at he
    · rename_i hlen
      cases he
      obtain ⟨g1, g2, g3⟩ := bounds_sound (P := P) (isS := true) rl rh hn hhb hlb
      refine .pure h (v := .slice (if cap = lb then addr else addr.map (·.add (lb * k))) (hb - lb) (cap - lb)) ?_ ?_
      · simp [Instr.sliceAt, run_underlying hu, Instr.slice, g1, run_sizeOf hk]
      · refine .list _ _ _ _ _ (fun j => cs (lb * k + j)) (by omega) (fun hf => ?_) ?_ (fun j hj => ?_) fun j x hx => ?_
        · simp only [Bool.and_eq_true, decide_eq_true_eq] at hf
          have := hfl hf.1
          omega
        · by_cases hz : (hb - lb) * k = 0
          · exact .inl (by rw [hz]; simp)
          · right
            have hlt : lb < hb := by
              rcases Nat.lt_or_ge lb hb with h' | h'
              · exact h'
              · have : hb - lb = 0 := by omega
                rw [this] at hz; simp at hz
            rcases ha with ha | ⟨B, o, rfl, hp, hc⟩
            · subst ha
              have : 0 < k := by rcases Nat.eq_zero_or_pos k with h' | h'
                                 · subst h'; simp at hz
                                 · exact h'
              have h0 : n * k = 0 := by simpa using hlen.symm
              rcases Nat.mul_eq_zero.1 h0 with h' | h' <;> omega
            · refine ⟨B, o + lb * k, ?_, hp, fun j hj => ?_⟩
              · rw [if_neg (by omega)]; simp [addr_add]
              · simp at hj
                rw [Nat.add_assoc]; exact hc _ (by omega)
        · simp at hj; exact h1 _ (by omega)
        · rw [List.getElem?_take] at hx
          split at hx
          · rw [List.getElem?_drop] at hx; exact hh _ x hx
          · cases hx
    · cases he
  | ref id ver k' off len v h1 hid hver hp =>
    simp only [sliceS] at he
    split at he
    · rename_i hv
      obtain ⟨hv, rfl⟩ := hv
      simp only [Option.bind_eq_some_iff, Option.map_eq_some_iff] at he
      obtain ⟨hb, hhb, lb, hlb, rfl⟩ := he
      obtain ⟨addr, cap, rfl, hlc, hcap⟩ := hp hv
      obtain ⟨g1, g2, g3⟩ := bounds_sound (P := P) (isS := true) rl rh hlc hhb hlb
      refine .pure h (v := .slice (if cap = lb then addr else addr.map (·.add (lb * k'))) (hb - lb) (cap - lb)) ?_ ?_
      · simp [Instr.sliceAt, run_underlying hu, Instr.slice, g1, run_sizeOf hk]
      · refine .ref _ _ _ _ _ _ rfl hid hver fun _ => ⟨_, _, rfl, by omega, ?_⟩
        by_cases hc0 : cap = lb
        · exact .inl (by omega)
        · right
          rcases hcap with hcap | ⟨B, b, c, e', f, hr, rfl, hw, hsz⟩
          · omega
          · refine ⟨B, b, c, e', f, hr, ?_, hw, ?_⟩
            · rw [if_neg hc0]; simp [addr_add, Nat.add_assoc]
            · have : (cap - lb) * k' + lb * k' = cap * k' := by rw [← Nat.add_mul]; congr 1; omega
              omega
    · cases he
  | _ => simp [sliceS] at he

/-- A cut with a capacity. -/
def sliceS3 (S : St) (k : Nat) (x : AV) (lo : Option AV) (hi mx : AV) : Option AV :=
  match x with
  | .list _ n cells => (bnd n (some mx) 0).bind fun m => (bnd m (some hi) 0).bind fun h => (bnd h lo 0).bind fun l => if cells.length = n * k then some (.list (decide (h = m)) (h - l) ((cells.drop (l * k)).take ((h - l) * k))) else none
  | .ref id ver k' off len => if (S.get id).1 = ver ∧ k' = k then (bnd len (some mx) 0).bind fun m => (bnd m (some hi) 0).bind fun h => (bnd h lo 0).map fun l => .ref id ver k (off + l * k) (h - l) else none
  | _ => none

theorem slice3_sound (h : SRel W0 ρ S w) {T e : TypeId} {k : Nat} {x r : AV} {lo : Option AV} {hi mx : AV} {v : Value} {lo' : Option Value} {hi' mx' : Value} (hu : P.underlying T = some (.slice e)) (hk : tySize P e = some k) (hx : VRel ρ S w x v)
    (rl : OVRel ρ S w lo lo') (rh : VRel ρ S w hi hi') (rm : VRel ρ S w mx mx') (he : sliceS3 S k x lo hi mx = some r) : Res P W0 ρ S w (Instr.sliceAt T v lo' (some hi') (some mx')) r S := by
  cases hx with
  | list fl n cells addr cap cs hn hfl ha h1 hh =>
    simp only [sliceS3, Option.bind_eq_some_iff] at he
    obtain ⟨mb, hmb, hb, hhb, lb, hlb, he⟩ := he
    split at he
    · rename_i hlen
      cases he
      obtain ⟨g1, g2, g3, g4⟩ := bounds3_sound (P := P) rl rh rm hn hmb hhb hlb
      refine .pure h (v := .slice (if mb = lb then addr else addr.map (·.add (lb * k))) (hb - lb) (mb - lb)) ?_ ?_
      · simp [Instr.sliceAt, run_underlying hu, Instr.slice, g1, run_sizeOf hk]
      · refine .list _ _ _ _ _ (fun j => cs (lb * k + j)) (by omega) (fun hf => ?_) ?_ (fun j hj => ?_) fun j x hx => ?_
        · simp only [decide_eq_true_eq] at hf; omega
        · by_cases hz : (hb - lb) * k = 0
          · exact .inl (by rw [hz]; simp)
          · right
            have hlt : lb < hb := by
              rcases Nat.lt_or_ge lb hb with h' | h'
              · exact h'
              · have : hb - lb = 0 := by omega
                rw [this] at hz; simp at hz
            rcases ha with ha | ⟨B, o, rfl, hp, hc⟩
            · subst ha
              have : 0 < k := by rcases Nat.eq_zero_or_pos k with h' | h'
                                 · subst h'; simp at hz
                                 · exact h'
              have h0 : n * k = 0 := by simpa using hlen.symm
              rcases Nat.mul_eq_zero.1 h0 with h' | h' <;> omega
            · refine ⟨B, o + lb * k, ?_, hp, fun j hj => ?_⟩
              · rw [if_neg (by omega)]; simp [addr_add]
              · simp at hj
                rw [Nat.add_assoc]; exact hc _ (by omega)
        · simp at hj; exact h1 _ (by omega)
        · rw [List.getElem?_take] at hx
          split at hx
          · rw [List.getElem?_drop] at hx; exact hh _ x hx
          · cases hx
    · cases he
  | ref id ver k' off len v h1 hid hver hp =>
    simp only [sliceS3] at he
    split at he
    · rename_i hv
      obtain ⟨hv, rfl⟩ := hv
      simp only [Option.bind_eq_some_iff, Option.map_eq_some_iff] at he
      obtain ⟨mb, hmb, hb, hhb, lb, hlb, rfl⟩ := he
      obtain ⟨addr, cap, rfl, hlc, hcap⟩ := hp hv
      obtain ⟨g1, g2, g3, g4⟩ := bounds3_sound (P := P) rl rh rm hlc hmb hhb hlb
      refine .pure h (v := .slice (if mb = lb then addr else addr.map (·.add (lb * k'))) (hb - lb) (mb - lb)) ?_ ?_
      · simp [Instr.sliceAt, run_underlying hu, Instr.slice, g1, run_sizeOf hk]
      · refine .ref _ _ _ _ _ _ rfl hid hver fun _ => ⟨_, _, rfl, by omega, ?_⟩
        by_cases hc0 : mb = lb
        · exact .inl (by omega)
        · right
          rcases hcap with hcap | ⟨B, b, c, e', f, hr, rfl, hw, hsz⟩
          · omega
          · refine ⟨B, b, c, e', f, hr, ?_, hw, ?_⟩
            · rw [if_neg hc0]; simp [addr_add, Nat.add_assoc]
            · have e1 : (mb - lb) * k' + lb * k' = mb * k' := by rw [← Nat.add_mul]; congr 1; omega
              have e2 : mb * k' ≤ cap * k' := Nat.mul_le_mul_right _ (by omega)
              omega
    · cases he
  | _ => simp [sliceS3] at he

/-- A cut of a text. -/
def sliceStr (x : AV) (lo hi : Option AV) : Option AV :=
  match x with
  | .str s => (bnd s.length hi s.length).bind fun h => (bnd h lo 0).map fun l => .str ((s.drop l).take (h - l))
  | _ => none

theorem extract_mk (s : List UInt8) (l h : Nat) : (⟨s.toArray⟩ : ByteArray).extract l h = ⟨((s.drop l).take (h - l)).toArray⟩ := by
  apply ByteArray.ext
  rw [ByteArray.data_extract]
  apply Array.ext'
  simp [List.extract_eq_take_drop]

theorem sliceStr_sound (h : SRel W0 ρ S w) {T : TypeId} {x r : AV} {lo hi : Option AV} {v : Value} {lo' hi' : Option Value} (hu : P.underlying T = some .string) (hx : VRel ρ S w x v)
    (rl : OVRel ρ S w lo lo') (rh : OVRel ρ S w hi hi') (he : sliceStr x lo hi = some r) : Res P W0 ρ S w (Instr.sliceAt T v lo' hi' none) r S := by
  cases hx with
  | str s =>
    simp only [sliceStr, Option.bind_eq_some_iff, Option.map_eq_some_iff] at he
    obtain ⟨hb, hhb, lb, hlb, rfl⟩ := he
    obtain ⟨g1, g2, g3⟩ := bounds_sound (P := P) (isS := false) (len := s.length) (cap := s.length) rl rh (Nat.le_refl _) hhb hlb
    refine .pure h (v := .string ⟨((s.drop lb).take (hb - lb)).toArray⟩) ?_ (.str _)
    have hsz : (⟨s.toArray⟩ : ByteArray).size = s.length := by simp [ByteArray.size]
    simp [Instr.sliceAt, run_underlying hu, Instr.slice, hsz, g1, extract_mk]
  | _ => simp [sliceStr] at he

/-- A cut of an array behind a pointer. -/
def sliceArr (S : St) (n k : Nat) (x : AV) (lo hi : Option AV) : Option AV :=
  match x with
  | .ptr id ver off =>
    if (S.get id).1 = ver then
      match (S.get id).2 with
      | .row cells => if off + n * k ≤ cells.length then (bnd n hi n).bind fun h => (bnd h lo 0).map fun l => .ref id ver k (off + l * k) (h - l) else none
      | _ => none
    else none
  | _ => none

theorem sliceArr_sound (h : SRel W0 ρ S w) {T e : TypeId} {n k : Nat} {x r : AV} {lo hi : Option AV} {v : Value} {lo' hi' : Option Value} (hu : P.underlying T = some (.array n e)) (hk : tySize P e = some k) (hx : VRel ρ S w x v)
    (rl : OVRel ρ S w lo lo') (rh : OVRel ρ S w hi hi') (he : sliceArr S n k x lo hi = some r) : Res P W0 ρ S w (Instr.sliceAt T v lo' hi' none) r S := by
  cases hx with
  | ptr id ver off v h1 hid hver hp =>
    simp only [sliceArr] at he
    split at he
    · rename_i hv
      obtain ⟨B, b, hr, rfl⟩ := hp hv
      split at he
      · rename_i cells hcells
        split at he
        · rename_i hlen
          simp only [Option.bind_eq_some_iff, Option.map_eq_some_iff] at he
          obtain ⟨hb, hhb, lb, hlb, rfl⟩ := he
          obtain ⟨g1, g2, g3⟩ := bounds_sound (P := P) (isS := false) rl rh (Nat.le_refl n) hhb hlb
          have hbk := h.blk id B b hr
          rw [hcells] at hbk
          obtain ⟨c, e', f, k1, k2, _⟩ := hbk
          refine .pure h (v := .slice (some (if n = lb then ⟨B, b + off, none⟩ else (⟨B, b + off, none⟩ : Addr).add (lb * k))) (hb - lb) (n - lb)) ?_ ?_
          · simp [Instr.sliceAt, run_underlying hu, Instr.sureAddr, g1, run_sizeOf hk]
          · refine .ref _ _ _ _ _ _ rfl hid hver fun _ => ⟨_, _, rfl, by omega, ?_⟩
            by_cases hc0 : n = lb
            · exact .inl (by omega)
            · refine .inr ⟨B, b, c, e', f, hr, ?_, k1, ?_⟩
              · rw [if_neg hc0]; simp [addr_add, Nat.add_assoc]
              · have : (n - lb) * k + lb * k = n * k := by rw [← Nat.add_mul]; congr 1; omega
                omega
        · cases he
      · cases he
    · cases he
  | _ => simp [sliceArr] at he

end
end Go.Proofs.YtnfiihdebonadaaGreatDoor.Abs
namespace Go.Proofs.YtnfiihdebonadaaGreatDoor.Abs
section
variable {P : Program} {W0 : World} {ρ : Ghost} {S : St} {w : World}

def u8 (b : UInt8) : AV := .int .u8 b.toNat

/-- What a slice holds: how many elements, and their cells. -/
def rd (S : St) (k : Nat) : AV → Option (Nat × List AV)
  | .list _ n cells => if cells.length = n * k then some (n, cells) else none
  | .ref id ver k' off len =>
    if (S.get id).1 = ver ∧ k' = k then
      match (S.get id).2 with
      | .row cells => if off + len * k ≤ cells.length then some (len, (cells.drop off).take (len * k)) else none
      | _ => none
    else none
  | .str s => if k = 1 then some (s.length, s.map u8) else none
  | _ => none

theorem firstCells_of {n m k : Nat} {cells : List AV} {B o cap : Nat} {cs : Nat → Value} (hm : m ≤ n) (hl : cells.length = n * k) (hc : ∀ j, j < cells.length → w.cell? ⟨B, o + j, none⟩ = some (cs j))
    (h1 : ∀ j, j < cells.length → (cs j).oneCell' = true) (h : ∀ j x, cells[j]? = some x → VRel ρ S w x (cs j)) :
    ∃ c, (Builtin.firstCells k m (.slice (some ⟨B, o, none⟩) n cap)).run P w = .ok c w ∧ CRel ρ S w (cells.take (m * k)) c := by
  have hle : m * k ≤ n * k := Nat.mul_le_mul_right _ hm
  have hl2 := run_loadCells (P := P) w ⟨B, o, none⟩ (m * k) cs (fun j hj => by rw [addr_add]; exact hc j (by omega))
  refine ⟨((List.range (m * k)).map cs).toArray, by simpa [Builtin.firstCells] using hl2, by simp; omega, fun j hj => ?_, fun j x hx => ?_⟩
  · simp at hj
    simpa [hj] using h1 j (by omega)
  · rw [List.getElem?_take] at hx
    split at hx
    · rename_i hj; simpa [hj] using h j x hx
    · cases hx

theorem rd_sound (h : SRel W0 ρ S w) {k n : Nat} {x : AV} {v : Value} {cells : List AV} (hx : VRel ρ S w x v) (he : rd S k x = some (n, cells)) :
    (Builtin.lenOf v).run P w = .ok n w ∧ cells.length = n * k ∧ ∀ m, m ≤ n → ∃ c, (Builtin.firstCells k m v).run P w = .ok c w ∧ CRel ρ S w (cells.take (m * k)) c := by
  cases hx with
  | list fl n' cells' addr cap cs hn hfl ha h1 hh =>
    simp only [rd] at he
    split at he
    · rename_i hl
      cases he
      refine ⟨rfl, hl, fun m hm => ?_⟩
      rcases ha with ha | ⟨B, o, rfl, hp, hc⟩
      · subst ha
        have hm0 : m * k = 0 := by
          have := Nat.mul_le_mul_right k hm
          simp at hl; omega
        refine ⟨#[], ?_, by simp [CRel]⟩
        cases addr <;> simp [Builtin.firstCells, hm0, loadCells, loadCellsFrom]
      · exact firstCells_of hm hl hc h1 hh
    · cases he
  | ref id ver k' off len v h1 hid hver hp =>
    simp only [rd] at he
    split at he
    · rename_i hv
      obtain ⟨hv, rfl⟩ := hv
      obtain ⟨addr, cap, rfl, hlc, hcap⟩ := hp hv
      split at he
      · rename_i cells' hk
        split at he
        · rename_i hle
          cases he
          refine ⟨rfl, by simp; omega, fun m hm => ?_⟩
          rcases hcap with hcap | ⟨B, b, c, e, f, hr, rfl, _, _⟩
          · have hm0 : m = 0 := by omega
            subst hm0
            refine ⟨#[], ?_, by simp [CRel]⟩
            cases addr <;> simp [Builtin.firstCells, loadCells, loadCellsFrom]
          · obtain ⟨cs, c1, c2, c3⟩ := row_cells h hr hk
            refine firstCells_of (cs := fun j => cs (off + j)) hm (by simp; omega) (fun j hj => ?_) (fun j hj => ?_) fun j x hx => ?_
            · simp at hj; rw [Nat.add_assoc]; exact c1 _ (by omega)
            · simp at hj; exact c2 _ (by omega)
            · rw [List.getElem?_take] at hx
              split at hx
              · rw [List.getElem?_drop] at hx; exact c3 _ x hx
              · cases hx
        · cases he
      · cases he
    · cases he
  | str s =>
    simp only [rd] at he
    split at he
    · rename_i hk
      subst hk
      cases he
      refine ⟨by simp [Builtin.lenOf, ByteArray.size], by simp, fun m hm => ?_⟩
      have e : (ByteArray.extract ⟨s.toArray⟩ 0 m).data.map (fun b : UInt8 => Value.int .u8 b.toNat) = ((s.take m).map fun b : UInt8 => Value.int .u8 b.toNat).toArray := by
        rw [extract_mk]
        simp
      refine ⟨_, by simp only [Builtin.firstCells]; rw [e]; rfl, by simp, fun j hj => ?_, fun j x hx => ?_⟩
      · simp at hj
        have hjm : j < m := by omega
        have hj2 : j < s.length := by omega
        have : (((s.take m).map fun b : UInt8 => Value.int .u8 b.toNat).toArray.getD j Go.undef) = .int .u8 s[j].toNat := by simp [hjm, hj2]
        rw [this]; rfl
      · simp only [Nat.mul_one, List.getElem?_take, List.getElem?_map] at hx
        split at hx
        · rename_i hj
          cases hs : s[j]? with
          | none => simp [hs] at hx
          | some b =>
            simp only [hs, Option.map_some, Option.some.injEq] at hx
            subst hx
            have : (((s.take m).map fun b : UInt8 => Value.int .u8 b.toNat).toArray.getD j Go.undef) = .int .u8 b.toNat := by simp [hj, hs]
            rw [this]; exact .int _ _
        · cases hx
    · cases he
  | _ => simp [rd] at he

/-- A block is forgotten (nothing of it is read any more), or is empty. -/
theorem SRel.forget (h : SRel W0 ρ S w) (id ver : Nat) (k : Blk) (hver : (S.get id).1 < ver) (hk : k.under S.len = true) : ∃ ρ', SRel W0 ρ' (S.put id (ver, k)) w ∧ Ext ρ S w ρ' (S.put id (ver, k)) w ∧ ρ' id = none := by
  have hE : Ext ρ S w (fun i => if i = id then none else ρ i) (S.put id (ver, k)) w := by
    refine ⟨Nat.le_refl _, fun _ c _ f hc => ⟨c, f, hc, rfl⟩, fun _ _ _ => rfl, fun B _ hp => ?_, by simp, fun i => ?_, fun i p hp hv => ?_⟩
    · obtain ⟨i, b, hb⟩ := hp
      by_cases hi : i = id
      · simp [hi] at hb
      · simp only [if_neg hi] at hb; exact ⟨i, b, hb⟩
    · rw [St.get_put]
      split
      · rename_i hi; rw [hi.1]; omega
      · exact Nat.le_refl _
    · by_cases hi : i = id
      · subst hi
        rw [St.get_put_eq _ _ _ (h.dom _ _ hp)] at hv
        simp only at hv; omega
      · simpa [hi] using hp
  have sub : ∀ i p, (if i = id then none else ρ i) = some p → ρ i = some p ∧ i ≠ id := by
    intro i p hp
    by_cases hi : i = id
    · simp [hi] at hp
    · exact ⟨by simpa [hi] using hp, hi⟩
  refine ⟨_, ⟨h.below, fun i B b hr => h.new i B b (sub _ _ hr).1, fun i p hp => by simpa using h.dom i p (sub _ _ hp).1, fun i B b hr => h.lt i B b (sub _ _ hr).1, fun i j B b c hi hj => h.inj i j B b c (sub _ _ hi).1 (sub _ _ hj).1, fun i B b hr => ?_, fun i => ?_⟩, hE, by simp⟩
  · obtain ⟨h1, h2⟩ := sub _ _ hr
    rw [St.get_put_ne _ _ _ h2]
    exact (h.blk i B b h1).ext hE rfl
  · rw [St.get_put, St.len_put]
    split
    · exact hk
    · exact h.wf i

def appendC (S : St) (k bytes : Nat) (x : AV) (m : Nat) (ys : List AV) : Option (AV × St) :=
  match x with
  | .list true n cells =>
    if m = 0 then some (x, S)
    else if cells.length = n * k ∧ (n + m) * bytes ≤ 140737488355328 ∧ n + m ≤ 9223372036854775807 then some (.ref S.len 0 k 0 (n + m), S.push (.row (cells ++ ys))) else none
  | .list false _ _ => if m = 0 then some (x, S) else none
  | .ref id ver k' off len =>
    if (S.get id).1 = ver ∧ k' = k then
      match (S.get id).2 with
      | .row cells => if off + len * k ≤ cells.length ∧ (len + m) * bytes ≤ 140737488355328 ∧ len + m ≤ 9223372036854775807 then some (.ref id (ver + 1) k 0 (len + m), S.put id (ver + 1, .row ((cells.drop off).take (len * k) ++ ys))) else none
      | _ => none
    else none
  | _ => none

def appendA (S : St) (k bytes : Nat) (x y : AV) : Option (AV × St) :=
  match rd S k y with
  | none => none
  | some (m, ys) => appendC S k bytes x m ys

def appendZA (S : St) (k bytes : Nat) (zero : List Value) (x y : AV) : Option (AV × St) :=
  match y with
  | .int _ n => if 0 ≤ n ∧ n ≤ 9223372036854775807 ∧ n * bytes ≤ 140737488355328 then appendC S k bytes x n.toNat ((repZ zero n.toNat).map AV.ofValue1) else none
  | _ => none

def notInt (d : TypeDesc) : Prop := d = .string ∨ ∃ e, d = .slice e

section
variable {t T X e : TypeId} {d : TypeDesc} {k m : Nat} {addr : Option Addr} {n cap : Nat} {v : Value}

/-- What is appended: how many elements, and their cells. -/
inductive Src (P : Program) (w : World) (X e : TypeId) (k bytes : Nat) (z v : Value) (m : Nat) (c : Array Value) : Prop where
  | read (d : TypeDesc) (hd : P.underlying X = some d) (hni : notInt d) (hlen : (Builtin.lenOf v).run P w = .ok m w) (hf : (Builtin.firstCells k m v).run P w = .ok c w)
  | zeros (kk kv : IntKind) (hd : P.underlying X = some (.int kk)) (hv : v = .int kv (m : Int)) (hm : m ≤ 9223372036854775807) (hb : m * bytes ≤ 140737488355328) (hc : c = Builtin.zeroCells z.cells m)

theorem wrap_i64' {m : Nat} (hm : m ≤ 9223372036854775807) : IntKind.i64.wrap (m : Int) = m := by
  simp [IntKind.wrap, IntKind.bits, IntKind.signed]; omega

theorem zeroCells_nil {z : Array Value} {m : Nat} (h : m * z.size = 0) : Builtin.zeroCells z m = #[] := by
  simp [Builtin.zeroCells, h]

theorem append_room_none {bytes : Nat} {z : Value} {c : Array Value} (hu : P.underlying T = some (.slice e)) (hk : tySize P e = some k) (hb : tyBytes P e = some bytes) (hz : tyZero P e = some z) (hzk : z.cells.size = k) (hsrc : Src P w X e k bytes z v m c)
    (hle : n + m ≤ cap) : (Builtin.append_ #[T, X] t #[.slice none n cap, v]).run P w = .ok (.slice none (n + m) cap) w := by
  cases hsrc with
  | read d hd hni hlen hf =>
    rcases hni with rfl | ⟨e', rfl⟩ <;>
      simp only [Builtin.append_, List.getElem?_toArray, List.getElem?_cons_zero, List.getElem?_cons_succ, Sem.run_bind, run_underlying hu, Result.andThen_ok, run_sizeOf hk, run_underlying hd, Sem.run_pure, Bool.false_eq_true, if_false, hlen, if_pos hle, Bool.not_false, if_true, hf]
  | zeros kk kv hd hv hm hmb hc =>
    subst hv
    obtain ⟨i, hi, hib⟩ := run_bytes hb w
    have h1 : ¬ ((m : Int) < 0) := by omega
    have h2 : ¬ ((m : Int) * (i.bytes : Int) > 2 ^ 48) := by
      rw [hib, ← Int.natCast_mul]; omega
    have hz' := run_zero hz w
    have h2' : ¬ (281474976710656 < (m : Int) * (i.bytes : Int)) := by rw [hib, ← Int.natCast_mul]; omega
    by_cases h0 : m * k = 0
    · simp [Builtin.append_, run_underlying hu, run_underlying hd, run_sizeOf hk, asInt, asIntOf, wrap_i64' hm, h1, hi, h2', hle, hz', h0]
    · simp [Builtin.append_, run_underlying hu, run_underlying hd, run_sizeOf hk, asInt, asIntOf, wrap_i64' hm, h1, hi, h2', hle, hz', h0]

theorem append_room_some {bytes : Nat} {z : Value} {c : Array Value} {a : Addr} (hu : P.underlying T = some (.slice e)) (hk : tySize P e = some k) (hb : tyBytes P e = some bytes) (hz : tyZero P e = some z) (hzk : z.cells.size = k) (hsrc : Src P w X e k bytes z v m c)
    (hle : n + m ≤ cap) {w' : World} (hs : (storeCells (a.add (n * k)) c.toList).run P w = .ok () w') :
    (Builtin.append_ #[T, X] t #[.slice (some a) n cap, v]).run P w = .ok (.slice (some a) (n + m) cap) w' := by
  cases hsrc with
  | read d hd hni hlen hf =>
    rcases hni with rfl | ⟨e', rfl⟩ <;>
      simp only [Builtin.append_, List.getElem?_toArray, List.getElem?_cons_zero, List.getElem?_cons_succ, Sem.run_bind, run_underlying hu, Result.andThen_ok, run_sizeOf hk, run_underlying hd, Sem.run_pure, Bool.false_eq_true, if_false, hlen, if_pos hle, Bool.not_false, if_true, hf, hs]
  | zeros kk kv hd hv hm hmb hc =>
    subst hv
    obtain ⟨i, hi, hib⟩ := run_bytes hb w
    have h1 : ¬ ((m : Int) < 0) := by omega
    have h2 : ¬ ((m : Int) * (i.bytes : Int) > 2 ^ 48) := by
      rw [hib, ← Int.natCast_mul]; omega
    have hz' := run_zero hz w
    have h2' : ¬ (281474976710656 < (m : Int) * (i.bytes : Int)) := by rw [hib, ← Int.natCast_mul]; omega
    by_cases h0 : m * k = 0
    · have : c = #[] := by rw [hc]; exact zeroCells_nil (by rw [hzk]; exact h0)
      rw [this] at hs
      simp [Builtin.append_, run_underlying hu, run_underlying hd, run_sizeOf hk, asInt, asIntOf, wrap_i64' hm, h1, hi, h2', hle, hz', h0, hs]
    · simp [Builtin.append_, run_underlying hu, run_underlying hd, run_sizeOf hk, asInt, asIntOf, wrap_i64' hm, h1, hi, h2', hle, hz', h0, ← hc, hs]

theorem append_grow {bytes : Nat} {z : Value} {c0 c o : Array Value} (hu : P.underlying T = some (.slice e)) (hk : tySize P e = some k) (hb : tyBytes P e = some bytes) (hz : tyZero P e = some z) (hzk : z.cells.size = k)
    (hsrc0 : Src P w X e k bytes z v m c0) (hsrc : Src P w.drew X e k bytes z v m c) (hgt : cap < n + m) (hbig : (n + m) * bytes ≤ 140737488355328) (h63 : n + m ≤ 9223372036854775807)
    (ho : (Builtin.firstCells k n (.slice addr n cap)).run P w.drew = .ok o w.drew) :
    (Builtin.append_ #[T, X] t #[.slice addr n cap, v]).run P w =
      .ok (.slice (some ⟨w.heap.size, 0, none⟩) (n + m) (grownCap w (n + m) cap e)) (w.drew.alloc (.cells (o ++ c ++ Builtin.zeroCells z.cells (grownCap w (n + m) cap e - (n + m))) e)) := by
  obtain ⟨i, hi, hib⟩ := run_bytes hb w
  obtain ⟨i', hi', hib'⟩ := run_bytes hb w.drew
  have h1 : ¬ (n + m ≤ cap) := by omega
  have h3 : ¬ (281474976710656 < Builtin.nextslicecap (n + m) cap * i.bytes) := by
    have := growslice_fits (bytes := bytes) hgt hbig
    rw [hib]; omega
  have hforced : (Question.appendCap (n + m) cap e).forced = false := rfl
  have hz' := run_zero hz w.drew
  have hall : (o ++ (c ++ Builtin.zeroCells z.cells (grownCap w (n + m) cap e - (n + m)))) = (o ++ c ++ Builtin.zeroCells z.cells (grownCap w (n + m) cap e - (n + m))) := by simp
  unfold grownCap at hall ⊢
  cases hsrc with
  | read d hd hni hlen' hf =>
    have hlen : (Builtin.lenOf v).run P w = .ok m w := by
      cases hsrc0 with
      | read d' hd' hni' hlen hf => exact hlen
      | zeros kk kv hd' => rw [hd] at hd'; cases hd'; rcases hni with h | ⟨_, h⟩ <;> cases h
    have h2 : ¬ (9223372036854775807 < (n : Int) + (m : Int) ∧ i.bytes = 0) := by omega
    rcases hni with rfl | ⟨e', rfl⟩
    · simp [Builtin.append_, run_underlying hu, run_underlying hd, run_sizeOf hk, hlen, h1, hi, h2, h3, hforced, hi', ho, hf, hz', Go.newRow]
    · simp [Builtin.append_, run_underlying hu, run_underlying hd, run_sizeOf hk, hlen, h1, hi, h2, h3, hforced, hi', ho, hf, hz', Go.newRow]
  | zeros kk kv hd hv hm hmb hc =>
    subst hv
    have g1 : ¬ ((m : Int) < 0) := by omega
    have g2 : ¬ (281474976710656 < (m : Int) * (i.bytes : Int)) := by
      rw [hib, ← Int.natCast_mul]; omega
    have h2 : ¬ (9223372036854775807 < (n : Int) + (m : Int)) := by omega
    by_cases h0 : m * k = 0
    · have : c = #[] := by rw [hc]; exact zeroCells_nil (by rw [hzk]; exact h0)
      subst this
      simp [Builtin.append_, run_underlying hu, run_underlying hd, run_sizeOf hk, asInt, asIntOf, wrap_i64' hm, g1, g2, h1, hi, h2, h3, hforced, hi', ho, hz', Go.newRow, h0]
    · simp [Builtin.append_, run_underlying hu, run_underlying hd, run_sizeOf hk, asInt, asIntOf, wrap_i64' hm, g1, g2, h1, hi, h2, h3, hforced, hi', ho, hz', Go.newRow, h0, hc]

end

end
end Go.Proofs.YtnfiihdebonadaaGreatDoor.Abs
namespace Go.Proofs.YtnfiihdebonadaaGreatDoor.Abs
section
variable {P : Program} {W0 : World} {ρ : Ghost} {S : St} {w : World}

theorem CRel.app {xs ys : List AV} {a b z : Array Value} (h : CRel ρ S w xs a) (k : CRel ρ S w ys b) :
    (xs ++ ys).length ≤ (a ++ b ++ z).size ∧ (∀ j, j < (xs ++ ys).length → ((a ++ b ++ z).getD j undef).oneCell' = true) ∧ ∀ j x, (xs ++ ys)[j]? = some x → VRel ρ S w x ((a ++ b ++ z).getD j undef) := by
  obtain ⟨h1, h2, h3⟩ := h
  obtain ⟨k1, k2, k3⟩ := k
  have get : ∀ j, j < a.size + b.size → (a ++ b ++ z).getD j Go.undef = if j < a.size then a.getD j Go.undef else b.getD (j - a.size) Go.undef := by
    intro j hj
    by_cases h : j < a.size
    · rw [if_pos h]; simp [Array.getElem?_append, h]
    · have h' : j - a.size < b.size := by omega
      rw [if_neg h]; simp [Array.getElem?_append, h, h']
  refine ⟨by simp; omega, fun j hj => ?_, fun j x hx => ?_⟩
  · simp at hj
    rw [get j (by omega)]
    by_cases hc : j < a.size
    · rw [if_pos hc]; exact h2 j hc
    · rw [if_neg hc]; exact k2 _ (by omega)
  · have hlt := (List.getElem?_eq_some_iff.1 hx).1
    simp at hlt
    rw [get j (by omega)]
    by_cases hj : j < a.size
    · rw [if_pos hj]
      rw [List.getElem?_append_left (by omega)] at hx
      exact h3 j x hx
    · rw [if_neg hj]
      rw [List.getElem?_append_right (by omega)] at hx
      rw [← h1]; exact k3 _ x hx

theorem grown_size {co cy z : Array Value} {n m k cap : Nat} (h1 : co.size = n * k) (h2 : cy.size = m * k) (hz : z.size = k) (hc : n + m ≤ cap) : (co ++ cy ++ Builtin.zeroCells z (cap - (n + m))).size = cap * k := by
  have e : (n + m) * k + (cap - (n + m)) * k = cap * k := by rw [← Nat.add_mul]; congr 1; omega
  rw [Nat.add_mul] at e
  simp [size_zeroCells, h1, h2, hz]; omega

theorem append_core (h : SRel W0 ρ S w) {t T X e : TypeId} {k bytes m : Nat} {z : Value} {x r : AV} {ys : List AV} {S' : St} {v u : Value} (hu : P.underlying T = some (.slice e))
    (hk : tySize P e = some k) (hb : tyBytes P e = some bytes) (hz : tyZero P e = some z) (hzk : z.cells.size = k) (hx : VRel ρ S w x v) (y2 : ys.length = m * k)
    (hs1 : ∃ cy, Src P w X e k bytes z u m cy ∧ CRel ρ S w ys cy) (hs2 : ∃ cy, Src P w.drew X e k bytes z u m cy ∧ CRel ρ S w.drew ys cy) (he : appendC S k bytes x m ys = some (r, S')) :
    Res P W0 ρ S w (Builtin.append_ #[T, X] t #[v, u]) r S' := by
    unfold appendC at he
    have hdr := SameHeap.drew w
    have hD := h.same hdr
    have hE := hdr.ext ρ S
    obtain ⟨cy, cy1, cy2⟩ := hs1
    obtain ⟨cy', cy1', cy2'⟩ := hs2
    have zero : m = 0 → cy.toList = [] := by
      intro hm; subst hm
      have : cy.size = 0 := by rw [← cy2.1, y2]; simp
      simpa using this
    have same : ∀ {addr : Option Addr} {n cap : Nat}, m = 0 → n ≤ cap → (Builtin.append_ #[T, X] t #[.slice addr n cap, u]).run P w = .ok (.slice addr n cap) w := by
      intro addr n cap hm hn
      cases addr with
      | none => have := append_room_none (t := t) hu hk hb hz hzk cy1 (n := n) (cap := cap) (by omega); rw [this, hm]; rfl
      | some a => have := append_room_some (t := t) (a := a) hu hk hb hz hzk cy1 (n := n) (cap := cap) (by omega) (w' := w) (by rw [zero hm]; rfl); rw [this, hm]; rfl
    cases hx with
    | list fl n cells addr cap cs hn hfl ha h1 hh =>
      have hxv : VRel ρ S w (.list fl n cells) (.slice addr n cap) := .list fl n cells addr cap cs hn hfl ha h1 hh
      cases fl with
      | false =>
        simp only at he
        split at he
        · rename_i hm; cases he; exact .pure h (same hm hn) hxv
        · cases he
      | true =>
        simp only at he
        split at he
        · rename_i hm; cases he; exact .pure h (same hm hn) hxv
        · rename_i hm
          split at he
          · rename_i hc
            obtain ⟨hl, hbig, h63⟩ := hc
            cases he
            have hcap := hfl rfl
            have hrx : rd S k (.list true n cells) = some (n, cells) := by simp [rd, hl]
            obtain ⟨_, _, x3⟩ := rd_sound (P := P) hD (hxv.ext hE) hrx
            obtain ⟨co, co1, co2⟩ := x3 n (Nat.le_refl _)
            rw [List.take_of_length_le (by omega)] at co2
            have hrun := append_grow (t := t) hu hk hb hz hzk cy1 cy1' (by omega) hbig h63 co1
            obtain ⟨a1, a2, a3⟩ := co2.app cy2' (z := Builtin.zeroCells z.cells (grownCap w (n + m) cap e - (n + m)))
            obtain ⟨g1, g2⟩ := hD.alloc _ e (0, 0) (Nat.le_refl _) (cells ++ ys) a1 a2 a3
            refine ⟨_, _, _, hrun, .ref _ _ _ _ _ _ rfl (by simp) (Nat.zero_le _) fun _ => ⟨_, _, rfl, grownCap_ge _ _ _ _, .inr ⟨w.heap.size, 0, _, e, (0, 0), Ghost.set_eq _ _ _, rfl, heap_alloc_new w.drew _, ?_⟩⟩, g1, hE.trans g2⟩
            rw [grown_size (by rw [← co2.1]; exact hl) (by rw [← cy2'.1]; exact y2) hzk (grownCap_ge _ _ _ _)]
            omega
          · cases he
    | ref id ver k' off len v h1 hid hver hp =>
      have hxv : VRel ρ S w (.ref id ver k' off len) v := .ref id ver k' off len v h1 hid hver hp
      simp only at he
      split at he
      · rename_i hvk
        obtain ⟨hv, rfl⟩ := hvk
        split at he
        · rename_i cells hcells
          split at he
          · rename_i hc
            obtain ⟨hle, hbig, h63⟩ := hc
            cases he
            obtain ⟨addr, cap, rfl, hlc, hcap⟩ := hp hv
            have hrx : rd S k' (.ref id ver k' off len) = some (len, (cells.drop off).take (len * k')) := by simp [rd, hv, hcells, hle]
            by_cases hroom : len + m ≤ cap
            · rcases hcap with hcap | ⟨B, b, c, e', f, hr, rfl, hw, hsz⟩
              · have hl0 : len = 0 := by omega
                have hm0 : m = 0 := by omega
                subst hl0; subst hm0
                have hy0 : ys = [] := List.eq_nil_of_length_eq_zero (by simpa using y2)
                subst hy0
                obtain ⟨ρ', f1, f2, _⟩ := h.forget id (ver + 1) (.row []) (by omega) rfl
                refine ⟨_, w, ρ', same rfl hlc, ?_, by simpa using f1, by simpa using f2⟩
                exact .ref _ _ _ _ _ _ rfl (by simpa using hid) (by rw [St.get_put_eq _ _ _ hid]; exact Nat.le_refl _) fun _ => ⟨addr, cap, by simp, by omega, .inl hcap⟩
              · -- within the capacity: written in place
                have hbk := h.blk id B b hr
                rw [hcells] at hbk
                obtain ⟨c', e'', f', g1, g2, g3, g4, g5⟩ := hbk
                rw [hw] at g1
                cases g1
                have hmk : (len + m) * k' ≤ cap * k' := Nat.mul_le_mul_right _ hroom
                rw [Nat.add_mul] at hmk
                have hcs : cy.toList.length = m * k' := by simp [← cy2.1, y2]
                have hst := run_storeCells_cells (P := P) B (b + off + len * k') cy.toList 0 w (fun j hj => by rw [Nat.add_zero, cell_eq hw (by omega)]; rfl) (fun j hj => by rw [Nat.add_zero]; exact frozen_false hw g3) (fun q hq => by
                  obtain ⟨j, hj, rfl⟩ := List.getElem_of_mem hq
                  have hj' : j < cy.size := by simpa using hj
                  have := cy2.2.1 j hj'
                  simpa [hj'] using this)
                obtain ⟨a1, a2, a3, a4, a5, c2, a6, a7, a8, a9⟩ := setCells_heap B e' f cy.toList (b + off + len * k') w c hw
                rw [Nat.add_zero] at hst
                have hrun := append_room_some (t := t) (a := ⟨B, b + off, none⟩) hu hk hb hz hzk cy1 hroom (w' := w.setCells B (b + off + len * k') cy.toList) (by rw [addr_add]; exact hst)
                have hlt := h.lt id _ _ hr
                have hst2 := h.step (S' := S.put id (ver + 1, .row ((cells.drop off).take (len * k') ++ ys))) (w' := w.setCells B (b + off + len * k') cy.toList) id (ver + 1) B (b + off) (.row ((cells.drop off).take (len * k') ++ ys)) (by simp) (by simpa using hid)
                  (fun i hi => St.get_put_ne S _ _ hi) (St.get_put_eq S _ _ hid) (by omega) (fun hh => by omega) a1 a2 a3 (by omega) (fun j hj hne => a5 j fun e => hne b (e ▸ hr)) (fun j c0 e0 f0 hj => by
                    by_cases hjB : j = B
                    · subst hjB
                      rw [hw] at hj; cases hj
                      exact ⟨c2, f, a6, a7⟩
                    · exact ⟨c0, f0, by rw [a5 j hjB]; exact hj, rfl⟩) (.inl ⟨b, hr⟩) (by omega) (fun hX => by
                    have get : ∀ j, j < len * k' + m * k' → c2.getD (b + off + j) Go.undef = if j < len * k' then c.getD (b + (off + j)) Go.undef else cy.getD (j - len * k') Go.undef := by
                      intro j hj
                      by_cases hjl : j < len * k'
                      · rw [if_pos hjl, a9 _ (by omega), Nat.add_assoc]
                      · rw [if_neg hjl]
                        have := a8 (j - len * k') (by omega) (by omega)
                        rw [show b + off + len * k' + (j - len * k') = b + off + j from by omega] at this
                        rw [this]
                        simp [List.getD]
                    have hL : ((cells.drop off).take (len * k') ++ ys).length = len * k' + m * k' := by simp [y2]; omega
                    refine ⟨c2, e', f, a6, by rw [hL]; omega, g3, fun j hj => ?_, fun j x hx => ?_⟩
                    · rw [hL] at hj
                      rw [get j hj]
                      by_cases hjl : j < len * k'
                      · rw [if_pos hjl]; exact g4 _ (by omega)
                      · rw [if_neg hjl]; exact cy2.2.1 _ (by have := cy2.1; omega)
                    · have hjj := (List.getElem?_eq_some_iff.1 hx).1
                      rw [hL] at hjj
                      rw [get j hjj]
                      by_cases hjl : j < len * k'
                      · rw [if_pos hjl]
                        rw [List.getElem?_append_left (by simp; omega), List.getElem?_take, if_pos hjl, List.getElem?_drop] at hx
                        exact (g5 _ x hx).ext hX
                      · rw [if_neg hjl]
                        rw [List.getElem?_append_right (by simp; omega)] at hx
                        have e1 : ((cells.drop off).take (len * k')).length = len * k' := by simp; omega
                        rw [e1] at hx
                        exact (cy2.2.2 _ x hx).ext hX)
                refine ⟨_, _, _, hrun, ?_, hst2.1, hst2.2⟩
                refine .ref _ _ _ _ _ _ rfl (by simpa using hid) (by rw [St.get_put_eq _ _ _ hid]; exact Nat.le_refl _) fun _ => ⟨_, _, rfl, hroom, .inr ⟨B, b + off, c2, e', f, Ghost.set_eq _ _ _, rfl, a6, by omega⟩⟩
            · -- a new array
              obtain ⟨_, _, x3⟩ := rd_sound (P := P) hD (hxv.ext hE) hrx
              obtain ⟨co, co1, co2⟩ := x3 len (Nat.le_refl _)
              rw [List.take_of_length_le (by simp; omega)] at co2
              have hrun := append_grow (t := t) hu hk hb hz hzk cy1 cy1' (by omega) hbig h63 co1
              obtain ⟨a1, a2, a3⟩ := co2.app cy2' (z := Builtin.zeroCells z.cells (grownCap w (len + m) cap e - (len + m)))
              have hsz := grown_size (z := z.cells) (n := len) (m := m) (k := k') (cap := grownCap w (len + m) cap e) (co := co) (cy := cy') (by rw [← co2.1]; simp; omega) (by rw [← cy2'.1]; exact y2) hzk (grownCap_ge _ _ _ _)
              have hst2 := hD.step (S' := S.put id (ver + 1, .row ((cells.drop off).take (len * k') ++ ys))) (w' := w.drew.alloc (.cells (co ++ cy' ++ Builtin.zeroCells z.cells (grownCap w (len + m) cap e - (len + m))) e)) id (ver + 1) w.heap.size 0 (.row ((cells.drop off).take (len * k') ++ ys)) (by simp) (by simpa using hid)
                  (fun i hi => St.get_put_ne S _ _ hi) (St.get_put_eq S _ _ hid) (by omega) (fun hh => by omega) rfl rfl rfl (by simp) (fun j hj _ => RowKit.Below.heap_alloc w.drew _ j hj) (fun j c0 e0 f0 hj => ⟨c0, f0, by
                    rw [RowKit.Below.heap_alloc w.drew _ j (by
                      rcases Nat.lt_or_ge j w.drew.heap.size with h' | h'
                      · exact h'
                      · rw [Array.getElem?_eq_none h'] at hj; cases hj)]
                    exact hj, rfl⟩) (.inr (Nat.le_refl _)) (by simp) (fun hX => ⟨_, e, (0, 0), heap_alloc_new w.drew _, by simpa using a1, Nat.le_refl _, fun j hj => by rw [Nat.zero_add]; exact a2 j hj, fun j x hx => by rw [Nat.zero_add]; exact (a3 j x hx).ext hX⟩)
              refine ⟨_, _, _, hrun, ?_, hst2.1, hE.trans hst2.2⟩
              refine .ref _ _ _ _ _ _ rfl (by simpa using hid) (by rw [St.get_put_eq _ _ _ hid]; exact Nat.le_refl _) fun _ => ⟨_, _, rfl, grownCap_ge _ _ _ _, .inr ⟨w.heap.size, 0, _, e, (0, 0), Ghost.set_eq _ _ _, rfl, heap_alloc_new w.drew _, by omega⟩⟩
          · cases he
        · cases he
      · cases he
    | _ => simp at he

theorem append_sound (h : SRel W0 ρ S w) {t T X e : TypeId} {d : TypeDesc} {k bytes : Nat} {z : Value} {x y r : AV} {S' : St} {v u : Value} (hu : P.underlying T = some (.slice e)) (hd : P.underlying X = some d) (hni : notInt d)
    (hk : tySize P e = some k) (hb : tyBytes P e = some bytes) (hz : tyZero P e = some z) (hzk : z.cells.size = k) (hx : VRel ρ S w x v) (hy : VRel ρ S w y u) (he : appendA S k bytes x y = some (r, S')) :
    Res P W0 ρ S w (Builtin.append_ #[T, X] t #[v, u]) r S' := by
  unfold appendA at he
  cases hrd : rd S k y with
  | none => simp [hrd] at he
  | some p =>
    obtain ⟨m, ys⟩ := p
    rw [hrd] at he
    simp only at he
    obtain ⟨y1, y2, y3⟩ := rd_sound (P := P) h hy hrd
    have hdr := SameHeap.drew w
    have hD := h.same hdr
    have hE := hdr.ext ρ S
    obtain ⟨y1', _, y3'⟩ := rd_sound (P := P) hD (hy.ext hE) hrd
    obtain ⟨cy, cy1, cy2⟩ := y3 m (Nat.le_refl _)
    obtain ⟨cy', cy1', cy2'⟩ := y3' m (Nat.le_refl _)
    rw [List.take_of_length_le (by omega)] at cy2 cy2'
    exact append_core h hu hk hb hz hzk hx y2 ⟨cy, .read d hd hni y1 cy1, cy2⟩ ⟨cy', .read d hd hni y1' cy1', cy2'⟩ he

theorem appendZ_sound (h : SRel W0 ρ S w) {t T X e : TypeId} {kk : IntKind} {k bytes : Nat} {z : Value} {x y r : AV} {S' : St} {v u : Value} (hu : P.underlying T = some (.slice e)) (hd : P.underlying X = some (.int kk))
    (hk : tySize P e = some k) (hb : tyBytes P e = some bytes) (hz : tyZero P e = some z) (hzk : z.cells.size = k) (hk0 : 0 < k) (h1 : z.cells.toList.all (·.oneCell') = true) (hx : VRel ρ S w x v) (hy : VRel ρ S w y u) (he : appendZA S k bytes z.cells.toList x y = some (r, S')) :
    Res P W0 ρ S w (Builtin.append_ #[T, X] t #[v, u]) r S' := by
  unfold appendZA at he
  cases hy with
  | int kv n =>
    simp only at he
    split at he
    · rename_i hn
      obtain ⟨n0, n1, n2⟩ := hn
      obtain ⟨m, rfl⟩ := Int.eq_ofNat_of_zero_le n0
      simp only [Int.toNat_natCast] at he
      rw [← Int.natCast_mul] at n2
      have hrep : Builtin.zeroCells z.cells m = (repZ z.cells.toList m).toArray := by
        unfold Builtin.zeroCells
        exact zeros_eq z.cells (by omega) m
      have hC : ∀ w' : World, CRel ρ S w' ((repZ z.cells.toList m).map AV.ofValue1) (Builtin.zeroCells z.cells m) := by
        intro w'
        rw [hrep]
        refine ⟨by simp, fun j hj => ?_, fun j x hx => ?_⟩
        · simp at hj
          have hm : (repZ z.cells.toList m)[j] ∈ z.cells.toList := by
            have : (repZ z.cells.toList m)[j] ∈ repZ z.cells.toList m := List.getElem_mem hj
            unfold repZ at this
            rw [List.mem_flatten] at this
            obtain ⟨l, hl, hm⟩ := this
            rw [List.mem_replicate] at hl
            exact hl.2 ▸ hm
          have := List.all_eq_true.1 h1 _ hm
          simpa [hj] using this
        · rw [List.getElem?_map] at hx
          cases hc : (repZ z.cells.toList m)[j]? with
          | none => simp [hc] at hx
          | some q =>
            simp only [hc, Option.map_some, Option.some.injEq] at hx
            subst hx
            have : (repZ z.cells.toList m).toArray.getD j Go.undef = q := by
              obtain ⟨h1, h2⟩ := List.getElem?_eq_some_iff.1 hc
              simp [h1, h2]
            rw [this]
            exact .ofValue1 q
      have hlen : ((repZ z.cells.toList m).map AV.ofValue1).length = m * k := by
        rw [List.length_map, repZ_length]; simp [hzk]
      exact append_core h hu hk hb hz hzk hx hlen ⟨_, .zeros kk kv hd rfl (by omega) (by omega) rfl, hC w⟩ ⟨_, .zeros kk kv hd rfl (by omega) (by omega) rfl, hC w.drew⟩ he
    · cases he
  | _ => simp at he

end
end Go.Proofs.YtnfiihdebonadaaGreatDoor.Abs
