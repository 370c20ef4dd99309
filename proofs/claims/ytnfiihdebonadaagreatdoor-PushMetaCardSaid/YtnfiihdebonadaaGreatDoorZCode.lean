import Derived.Test.YtnfiihdebonadaaGreatDoorZOps6
import Derived.Laws.Runes
set_option linter.unusedSimpArgs false
set_option linter.unusedVariables false
set_option linter.unusedSectionVars false
namespace Go.Proofs.YtnfiihdebonadaaGreatDoor.Abs
section
variable {P : Program} {W0 : World} {ρ : Ghost} {S : St} {w : World}

def copyA (S : St) (k : Nat) (x y : AV) : Option (AV × St) :=
  match x, rd S k y with
  | .ref id ver k' off len, some (m, ys) =>
    if (S.get id).1 = ver ∧ k' = k then
      match (S.get id).2 with
      | .row cells => if off + len * k ≤ cells.length then some (.int .i64 (min m len : Nat), S.put id (ver, .row (putC cells off (ys.take (min m len * k))))) else none
      | _ => none
    else none
  | _, _ => none

theorem copy_sound (h : SRel W0 ρ S w) {t T X e : TypeId} {k : Nat} {x y r : AV} {S' : St} {v u : Value} (hu : P.underlying T = some (.slice e)) (hk : tySize P e = some k)
    (hx : VRel ρ S w x v) (hy : VRel ρ S w y u) (he : copyA S k x y = some (r, S')) : Res P W0 ρ S w (Builtin.copy_ #[T, X] t #[v, u]) r S' := by
  unfold copyA at he
  split at he
  · rename_i id ver k' off len m ys hrd
    split at he
    · rename_i hvk
      obtain ⟨hv, rfl⟩ := hvk
      split at he
      · rename_i cells hcells
        split at he
        · rename_i hle
          cases he
          obtain ⟨y1, y2, y3⟩ := rd_sound (P := P) h hy hrd
          obtain ⟨cy, cy1, cy2⟩ := y3 (min m len) (by omega)
          cases hx with
          | ref id ver k' off len v h1 hid hver hp =>
            obtain ⟨addr, cap, rfl, hlc, hcap⟩ := hp hv
            have hn : Nat.min m len = min m len := rfl
            have head : ∀ {w' : World}, (match addr with | some a => storeCells a cy.toList | none => pure ()).run P w = .ok () w' → (Builtin.copy_ #[T, X] t #[.slice addr len cap, u]).run P w = .ok (.int .i64 (min m len : Nat)) w' := by
              intro w' hs
              cases addr with
              | none => cases hs; simp [Builtin.copy_, run_underlying hu, y1, run_sizeOf hk, hn, cy1, goInt]
              | some a => simp at hs; simp [Builtin.copy_, run_underlying hu, y1, run_sizeOf hk, hn, cy1, hs, goInt]
            have hlk : min m len * k' ≤ len * k' := Nat.mul_le_mul_right _ (Nat.min_le_right _ _)
            have hmk : min m len * k' ≤ m * k' := Nat.mul_le_mul_right _ (Nat.min_le_left _ _)
            have hyl : (ys.take (min m len * k')).length = min m len * k' := by simp; omega
            have hlist : ∀ q ∈ cy.toList, q.oneCell' = true := fun q hq => by
              obtain ⟨j, hj, rfl⟩ := List.getElem_of_mem hq
              have hj' : j < cy.size := by simpa using hj
              have := cy2.2.1 j hj'
              simpa [hj'] using this
            rcases hcap with hcap | ⟨B, b, c, e', f, hr, rfl, hw, hsz⟩
            · have hl0 : len = 0 := by omega
              subst hl0
              have hz : cy = #[] := by
                have : cy.size = 0 := by rw [← cy2.1, hyl]; simp
                simpa using this
              subst hz
              have hsame : S.put id (ver, .row (putC cells off (ys.take (min m 0 * k')))) = S := by
                have e1 : ys.take (min m 0 * k') = [] := by simp
                rw [e1]
                have e2 : putC cells off [] = cells := by simp [putC]
                rw [e2, ← hv, ← hcells]
                cases S with
                | mk mem =>
                  simp only [St.put, St.get, St.mk.injEq]
                  apply List.ext_getElem?
                  intro j
                  rw [List.getElem?_set]
                  split
                  · rename_i hj
                    subst hj
                    split
                    · rename_i hlt; simp [hlt]
                    · rename_i hlt; rw [List.getElem?_eq_none (by omega)]
                  · rfl
              rw [hsame]
              exact .pure h (head (by cases addr <;> rfl)) (.int _ _)
            · obtain ⟨w', g1, g2, g3⟩ := h.write (P := P) hr hcells off (ys.take (min m len * k')) cy.toList (by simpa using cy2.1.symm) (by rw [hyl]; omega) hlist (fun j q hq => by simpa using cy2.2.2 j q hq)
              rw [hv] at g2 g3
              exact ⟨_, w', ρ, head g1, .int _ _, g2, g3⟩
        · cases he
      · cases he
    · cases he
  · cases he

def mkSlA (S : St) (k bytes : Nat) (zero : List Value) (l c : AV) : Option (AV × St) :=
  match l, c with
  | .int _ n, .int _ m => if 0 ≤ n ∧ n ≤ m ∧ m ≤ 9223372036854775807 ∧ bytes * m ≤ 140737488355328 then some (.ref S.len 0 k 0 n.toNat, S.push (.row ((repZ zero n.toNat).map AV.ofValue1))) else none
  | _, _ => none

theorem wrap_i64 {n : Int} (h0 : -9223372036854775808 ≤ n) (h1 : n ≤ 9223372036854775807) : IntKind.i64.wrap n = n := by
  simp [IntKind.wrap, IntKind.bits, IntKind.signed]
  omega

theorem mkSl_sound (h : SRel W0 ρ S w) {T e : TypeId} {k bytes : Nat} {z : Value} {l c r : AV} {S' : St} {v u : Value} (hu : P.underlying T = some (.slice e)) (hk : tySize P e = some k) (hb : tyBytes P e = some bytes) (hz : tyZero P e = some z)
    (hzk : z.cells.size = k) (hk0 : 0 < k) (h1 : z.cells.toList.all (·.oneCell') = true) (hl : VRel ρ S w l v) (hc : VRel ρ S w c u) (he : mkSlA S k bytes z.cells.toList l c = some (r, S')) : Res P W0 ρ S w (Instr.makeSlice T v u) r S' := by
  unfold mkSlA at he
  split at he
  · rename_i kl n kc m
    split at he
    · rename_i hn
      obtain ⟨n0, nm, m63, mb⟩ := hn
      cases he
      cases hl with
      | int _ _ =>
        cases hc with
        | int _ _ =>
          obtain ⟨i, hi, hib⟩ := run_bytes hb w
          have w1 : IntKind.i64.wrap n = n := wrap_i64 (by omega) (by omega)
          have w2 : IntKind.i64.wrap m = m := wrap_i64 (by omega) (by omega)
          have hall : ∀ q, (repZ z.cells.toList q).all (·.oneCell') = true := by
            intro q
            rw [List.all_eq_true] at h1 ⊢
            intro x hx
            simp only [repZ, List.mem_flatten, List.mem_replicate] at hx
            obtain ⟨l, ⟨_, rfl⟩, hx⟩ := hx
            exact h1 x hx
          have hz0 : (Array.range (m.toNat * k)).map (fun i => z.cells[i % z.cells.size]!) = (repZ z.cells.toList m.toNat).toArray := by
            rw [← hzk]; exact zeros_eq z.cells (by omega) m.toNat
          have hC := CRel.ofValues (ρ := ρ) (S := S) (w := w) _ (hall m.toNat)
          have hpre : (repZ z.cells.toList n.toNat) <+: (repZ z.cells.toList m.toNat) := by
            obtain ⟨d, hd⟩ : ∃ d, m.toNat = n.toNat + d := ⟨m.toNat - n.toNat, by omega⟩
            rw [hd]
            refine ⟨repZ z.cells.toList d, ?_⟩
            simp [repZ, ← List.flatten_append, List.replicate_append_replicate]
          have hpm : ((repZ z.cells.toList n.toNat).map AV.ofValue1) <+: ((repZ z.cells.toList m.toNat).map AV.ofValue1) := hpre.map _
          have hle := hpm.length_le
          have hszm : (repZ z.cells.toList m.toNat).toArray.size = m.toNat * k := by simp [repZ_length, hzk]
          obtain ⟨g1, g2⟩ := h.alloc (repZ z.cells.toList m.toNat).toArray e (0, 0) (Nat.le_refl _) ((repZ z.cells.toList n.toNat).map AV.ofValue1) (by rw [← hC.1]; exact hle) (fun j hj => hC.2.1 j (by rw [← hC.1]; omega)) (fun j x hx => by
            obtain ⟨s, hs⟩ := hpm
            refine hC.2.2 j x ?_
            rw [← hs, List.getElem?_append_left (List.getElem?_eq_some_iff.1 hx).1]
            exact hx)
          refine ⟨.slice (some ⟨w.heap.size, 0, none⟩) n.toNat m.toNat, _, _, ?_, .ref _ _ _ _ _ _ rfl (by simp) (Nat.zero_le _) fun _ => ⟨_, _, rfl, by omega, .inr ⟨w.heap.size, 0, _, e, (0, 0), Ghost.set_eq _ _ _, rfl, heap_alloc_new w _, by rw [hszm]; omega⟩⟩, g1, g2⟩
          have hm48 : ¬ ((i.bytes : Int) * m > 2 ^ 48) := by rw [hib]; omega
          have hcond : ((decide (m < 0) || decide ((i.bytes : Int) * m > 2 ^ 48)) || decide (n < 0) || decide (m < n)) = false := by
            simp only [Bool.or_eq_false_iff, decide_eq_false_iff_not]
            omega
          by_cases hmz : m.toNat * k = 0
          · have hm0 : m.toNat = 0 := by
              rcases Nat.mul_eq_zero.1 hmz with h' | h'
              · exact h'
              · omega
            have ha : ∀ f : Nat → Value, Array.map f (Array.range 0) = #[] := fun f => by apply Array.ext <;> simp
            simp only [Instr.makeSlice, Sem.run_bind, run_underlying hu, Result.andThen_ok, asInt, asIntOf, Sem.run_pure, hi, w1, w2, gt_iff_lt, hcond, Bool.false_eq_true, if_false, run_askRoom, run_sizeOf hk, hmz, if_true]
            simp [ha, Go.newRow, hm0, repZ]
          · simp only [Instr.makeSlice, Sem.run_bind, run_underlying hu, Result.andThen_ok, asInt, asIntOf, Sem.run_pure, hi, w1, w2, gt_iff_lt, hcond, Bool.false_eq_true, if_false, run_askRoom, run_sizeOf hk, hmz, run_zero hz, hz0]
            simp [Go.newRow]
    · cases he
  · cases he

def convIA (k : IntKind) : AV → Option AV
  | .int _ n => some (.int k (k.wrap n))
  | _ => none

theorem convI_sound (h : SRel W0 ρ S w) {src dst : TypeId} {d : TypeDesc} {k : IntKind} {x r : AV} {v : Value} (hs : P.underlying src = some d) (hd : P.underlying dst = some (.int k)) (hx : VRel ρ S w x v) (he : convIA k x = some r) :
    Res P W0 ρ S w (convert src dst v) r S := by
  cases hx with
  | int k' n => cases he; exact .pure h (by simp [convert, run_underlying hs, run_underlying hd, Conv.intToInt]) (.int _ _)
  | _ => simp [convIA] at he

theorem convSS_sound (h : SRel W0 ρ S w) {src dst : TypeId} {d : TypeDesc} {s : List UInt8} {v : Value} (hs : P.underlying src = some d) (hd : P.underlying dst = some .string) (hx : VRel ρ S w (.str s) v) :
    Res P W0 ρ S w (convert src dst v) (.str s) S := by
  cases hx
  exact .pure h (by simp [convert, run_underlying hs, run_underlying hd]) (.str _)

theorem convSB_sound (h : SRel W0 ρ S w) {src dst e : TypeId} {d : TypeDesc} {s : List UInt8} {v : Value} (hs : P.underlying src = some d) (hd : P.underlying dst = some (.slice e)) (he : P.underlying e = some (.int .u8)) (hx : VRel ρ S w (.str s) v) :
    Res P W0 ρ S w (convert src dst v) (.list false s.length (s.map u8)) S := by
  cases hx
  have hrun := Lib.run_convert_string_bytes (P := P) w src dst e ⟨s.toArray⟩ hs hd he
  have hsz : (⟨s.toArray⟩ : ByteArray).size = s.length := by simp [ByteArray.size]
  have hext : Ext ρ S w ρ S (Lib.bytesWorld w e ⟨s.toArray⟩) := by
    refine ⟨by rw [Lib.bytesWorld_size]; omega, fun B c e' f hB => ⟨c, f, ?_, rfl⟩, fun B hB _ => Lib.bytesWorld_at_old w e _ B hB, fun _ _ hp => hp, Nat.le_refl _, fun _ => Nat.le_refl _, fun _ _ hp _ => hp⟩
    rw [Lib.bytesWorld_at_old w e _ B (by
      rcases Nat.lt_or_ge B w.heap.size with h' | h'
      · exact h'
      · rw [Array.getElem?_eq_none h'] at hB; cases hB)]
    exact hB
  have hsr : SRel W0 ρ S (Lib.bytesWorld w e ⟨s.toArray⟩) := by
    refine ⟨⟨h.below.os, h.below.tape, h.below.output, Nat.le_trans h.below.size (by rw [Lib.bytesWorld_size]; omega), fun j hj => ?_⟩, h.new, h.dom, fun i B b hr => Nat.lt_of_lt_of_le (h.lt i B b hr) (by rw [Lib.bytesWorld_size]; omega), h.inj, fun i B b hr => (h.blk i B b hr).ext hext (Lib.bytesWorld_at_old w e _ B (h.lt i B b hr)), h.wf⟩
    rw [Lib.bytesWorld_at_old w e _ j (Nat.lt_of_lt_of_le hj h.below.size)]
    exact h.below.block j hj
  refine ⟨_, _, ρ, hrun, ?_, hsr, hext⟩
  rw [hsz]
  refine .list _ _ _ _ _ (fun j => .int .u8 (s.getD j 0).toNat) (grownCap_ge _ _ _ _) (fun hf => by cases hf) (.inr ⟨w.heap.size, 0, rfl, ?_, fun j hj => ?_⟩) (fun _ _ => rfl) fun j x hx => ?_
  · rintro ⟨i, b, hb⟩
    have := h.lt i _ _ hb
    omega
  · simp at hj
    rw [Nat.zero_add, Lib.bytesWorld_cell w e _ j (by rw [hsz]; exact hj)]
  · rw [List.getElem?_map] at hx
    cases hs' : s[j]? with
    | none => simp [hs'] at hx
    | some b =>
      simp only [hs', Option.map_some, Option.some.injEq] at hx
      subst hx
      simp only [List.getD, hs', Option.getD_some]
      exact .int _ _

/-- The bytes of cells. -/
def bytesOf : List AV → Option (List UInt8)
  | [] => some []
  | .int .u8 n :: rest => (bytesOf rest).map (UInt8.ofNat n.toNat :: ·)
  | _ => none

theorem bytesOf_map (s : List UInt8) : bytesOf (s.map u8) = some s := by
  induction s with
  | nil => rfl
  | cons b s ih => simp [bytesOf, u8, ih]

theorem bytesOf_cells {cells : List AV} {cs : Array Value} {s : List UInt8} (hc : CRel ρ S w cells cs) (hb : bytesOf cells = some s) : ∃ ns : List Int, cs = (ns.map (Value.int .u8)).toArray ∧ s = ns.map fun n => UInt8.ofNat n.toNat := by
  obtain ⟨c1, c2, c3⟩ := hc
  have gen : ∀ (cells : List AV) (l : List Value) (s : List UInt8), cells.length = l.length → (∀ (j : Nat) (x : AV), cells[j]? = some x → VRel ρ S w x (l.getD j Go.undef)) → bytesOf cells = some s → ∃ ns : List Int, l = ns.map (Value.int .u8) ∧ s = ns.map fun n => UInt8.ofNat n.toNat := by
    intro cells
    induction cells with
    | nil =>
      intro l s hl _ hb
      have : l = [] := List.eq_nil_of_length_eq_zero (by simpa using hl.symm)
      subst this
      simp [bytesOf] at hb; subst hb
      exact ⟨[], rfl, rfl⟩
    | cons x cells ih =>
      intro l s hl h hb
      cases l with
      | nil => simp at hl
      | cons v l =>
        have h0 := h 0 x rfl
        simp [List.getD] at h0
        cases h0 with
        | int k n =>
          cases k <;> simp [bytesOf] at hb
          obtain ⟨s', hs', rfl⟩ := hb
          obtain ⟨ns, e1, e2⟩ := ih l s' (by simpa using hl) (fun j y hy => by have := h (j + 1) y (by simpa using hy); simpa [List.getD] using this) hs'
          exact ⟨n :: ns, by simp [e1], by simp [e2]⟩
        | _ => simp [bytesOf] at hb
  obtain ⟨ns, e1, e2⟩ := gen cells cs.toList s (by simpa using c1) (fun j x hx => by simpa using c3 j x hx) hb
  exact ⟨ns, by rw [← e1], e2⟩

theorem convBS_sound (h : SRel W0 ρ S w) {src dst e : TypeId} {n : Nat} {x : AV} {cells : List AV} {s : List UInt8} {v : Value} (hs : P.underlying src = some (.slice e)) (he : P.underlying e = some (.int .u8)) (hd : P.underlying dst = some .string)
    (hx : VRel ρ S w x v) (hnl : ∀ s, x ≠ .str s) (hr : rd S 1 x = some (n, cells)) (hb : bytesOf cells = some s) : Res P W0 ρ S w (convert src dst v) (.str s) S := by
  obtain ⟨y1, y2, y3⟩ := rd_sound (P := P) h hx hr
  obtain ⟨c, c1, c2⟩ := y3 n (Nat.le_refl _)
  rw [List.take_of_length_le (by omega)] at c2
  obtain ⟨ns, rfl, rfl⟩ := bytesOf_cells c2 hb
  have hfold : ∀ (ns : List Int) (acc : List UInt8), ns.foldl (fun r n => r.push (UInt8.ofNat n.toNat)) (⟨acc.toArray⟩ : ByteArray) = ⟨(acc ++ ns.map fun n => UInt8.ofNat n.toNat).toArray⟩ := by
    intro ns
    induction ns with
    | nil => intro acc; simp
    | cons n ns ih =>
      intro acc
      simp only [List.foldl_cons, List.map_cons]
      have e1 : (⟨acc.toArray⟩ : ByteArray).push (UInt8.ofNat n.toNat) = ⟨(acc ++ [UInt8.ofNat n.toNat]).toArray⟩ := by
        apply ByteArray.ext; simp [ByteArray.push]
      rw [e1, ih]; simp
  have key : ∃ addr cap, v = .slice addr n cap := by
    cases hx with
    | list fl n' cells' addr cap cs hn hfl ha h1 hh =>
      simp only [rd] at hr
      split at hr
      · cases hr; exact ⟨_, _, rfl⟩
      · cases hr
    | ref id ver k off len v h1 hid hver hp =>
      simp only [rd] at hr
      split at hr
      · rename_i hv
        obtain ⟨addr, cap, rfl, _⟩ := hp hv.1
        split at hr
        · split at hr
          · cases hr; exact ⟨_, _, rfl⟩
          · cases hr
        · cases hr
      · cases hr
    | str s => exact absurd rfl (hnl s)
    | _ => simp [rd] at hr
  obtain ⟨addr, cap, rfl⟩ := key
  cases addr with
  | none =>
    have : ns = [] := by
      simp [Builtin.firstCells] at c1
      exact c1
    subst this
    refine .pure h (v := .string ⟨#[]⟩) ?_ (.str _)
    simp [convert, run_underlying hs, run_underlying hd, run_underlying he, Conv.bytesToString]
    rfl
  | some a =>
    have hl : (loadCells a n).run P w = .ok (ns.map (Value.int .u8)).toArray w := by simpa [Builtin.firstCells] using c1
    refine .pure h (v := .string ⟨(ns.map fun n => UInt8.ofNat n.toNat).toArray⟩) ?_ (.str _)
    simp only [convert, Sem.run_bind, run_underlying hs, run_underlying hd, run_underlying he, Result.andThen_ok]
    rw [run_bytesToString w a n cap ns hl]
    have := hfold ns []
    simp only [List.nil_append] at this
    rw [← this]; rfl

theorem mkI_sound (h : SRel W0 ρ S w) {T : TypeId} {d : TypeDesc} {x : AV} {v : Value} (hu : P.underlying T = some d) (hd : ∀ ms, d ≠ .interface ms) (hx : VRel ρ S w x v) : Res P W0 ρ S w (Instr.makeInterface T v) (.iface T x) S := by
  refine .pure h (v := .iface T v) ?_ (.iface _ _ _ hx)
  cases d <;> first | (simp [Instr.makeInterface, run_underlying hu]; done) | exact absurd rfl (hd _)

/-- A length. -/
def lenA (S : St) : AV → Option Nat
  | .str s => some s.length
  | .list _ n _ => some n
  | .ref id ver _ _ len => if (S.get id).1 = ver then some len else none
  | _ => none

theorem len_sound (h : SRel W0 ρ S w) {t T : TypeId} {d : TypeDesc} {x : AV} {v : Value} {n : Nat} (hu : P.underlying T = some d) (hd : d = .string ∨ ∃ e, d = .slice e) (hs : d = .string → ∃ s, x = .str s) (hs2 : ∀ s, x = .str s → d = .string) (hx : VRel ρ S w x v) (he : lenA S x = some n) :
    Res P W0 ρ S w (Builtin.len_ #[T] t #[v]) (.int .i64 n) S := by
  have sl : ∀ {addr : Option Addr} {cap : Nat}, (∃ e, d = .slice e) → v = .slice addr n cap → Res P W0 ρ S w (Builtin.len_ #[T] t #[v]) (.int .i64 n) S := by
    rintro addr cap ⟨e, rfl⟩ rfl
    exact .pure h (by simp only [Builtin.len_, List.getElem?_toArray, List.getElem?_cons_zero, Sem.run_bind, run_underlying hu, Result.andThen_ok, Sem.run_pure]; rfl) (.int _ _)
  have hsl : (∀ s, x ≠ .str s) → ∃ e, d = .slice e := by
    intro hne
    rcases hd with hd | hd
    · obtain ⟨s, hs⟩ := hs hd; exact absurd hs (hne s)
    · exact hd
  cases hx with
  | str s =>
    have := hs2 s rfl
    subst this
    cases he
    exact .pure h (by simp only [Builtin.len_, List.getElem?_toArray, List.getElem?_cons_zero, Sem.run_bind, run_underlying hu, Result.andThen_ok, Sem.run_pure]; rfl) (.int _ _)
  | list fl n' cells addr cap cs hn hfl ha h1 hh => cases he; exact sl (hsl (fun s => by simp)) rfl
  | ref id ver k off len v h1 hid hver hp =>
    simp only [lenA] at he
    split at he
    · rename_i hv
      cases he
      obtain ⟨addr, cap, hvv, _⟩ := hp hv
      exact sl (hsl (fun s => by simp)) hvv
    · cases he
  | _ => simp [lenA] at he

end
end Go.Proofs.YtnfiihdebonadaaGreatDoor.Abs
namespace Go.Proofs.YtnfiihdebonadaaGreatDoor.Abs

def Ghost.cut (ρ : Ghost) (m : Nat) : Ghost := fun i => if i < m then ρ i else none

theorem priv_cut {ρ : Ghost} {m B : Nat} (h : priv (ρ.cut m) B) : priv ρ B := by
  obtain ⟨i, b, hb⟩ := h
  unfold Ghost.cut at hb
  split at hb
  · exact ⟨i, b, hb⟩
  · cases hb

/-- A value that names only blocks below m stands when the others are let go. -/
theorem VRel.cut {ρ : Ghost} {S : St} {w : World} {x : AV} {v : Value} {m : Nat} (hm : m ≤ S.len) (h : VRel ρ S w x v) (hb : x.under m = true) : VRel (ρ.cut m) (S.trunc m) w x v := by
  have hget : ∀ id, id < m → (S.trunc m).get id = S.get id := fun id hid => by rw [St.get_trunc, if_pos hid]
  have hlen : (S.trunc m).len = m := by rw [St.len_trunc]; omega
  induction h with
  | undef v => exact .undef v
  | int k n => exact .int k n
  | bool b => exact .bool b
  | str s => exact .str s
  | val v => exact .val v
  | ptr id ver off v h1 hid hver h =>
    have hid' : id < m := by simpa [AV.under] using hb
    refine .ptr id ver off v h1 (by omega) (by rw [hget id hid']; exact hver) fun hv => ?_
    rw [hget id hid'] at hv
    obtain ⟨B, b, hr, hv'⟩ := h hv
    exact ⟨B, b, by simp [Ghost.cut, hid', hr], hv'⟩
  | ref id ver k off len v h1 hid hver h =>
    have hid' : id < m := by simpa [AV.under] using hb
    refine .ref id ver k off len v h1 (by omega) (by rw [hget id hid']; exact hver) fun hv => ?_
    rw [hget id hid'] at hv
    obtain ⟨addr, cap, hv', hl, hc⟩ := h hv
    refine ⟨addr, cap, hv', hl, hc.imp (fun h => h) ?_⟩
    rintro ⟨B, b, c, e, f, hr, rest⟩
    exact ⟨B, b, c, e, f, by simp [Ghost.cut, hid', hr], rest⟩
  | list fl n cells addr cap cs hn hfl ha h1 h ih =>
    simp only [AV.under] at hb
    refine .list fl n cells addr cap cs hn hfl ?_ h1 fun j x hx => ih j x hx (underL_get hb hx)
    exact ha.imp (fun h => h) fun ⟨B, o, g1, g2, g3⟩ => ⟨B, o, g1, fun hp => g2 (priv_cut hp), g3⟩
  | eptr cells off B o cs hc h1 h ih =>
    simp only [AV.under] at hb
    refine .eptr cells off B o cs ?_ h1 fun j x hx => ih j x hx (underL_get hb hx)
    exact hc.imp (fun h => h) fun ⟨g2, g3⟩ => ⟨fun hp => g2 (priv_cut hp), g3⟩
  | map id ver v h1 hid hver h =>
    have hid' : id < m := by simpa [AV.under] using hb
    refine .map id ver v h1 (by omega) (by rw [hget id hid']; exact hver) fun hv => ?_
    rw [hget id hid'] at hv
    obtain ⟨B, hr, hv'⟩ := h hv
    exact ⟨B, by simp [Ghost.cut, hid', hr], hv'⟩
  | iface t x v h ih => exact .iface t x v (ih (by simpa [AV.under] using hb))
  | clo fn first captured f c hf hc h1 h2 ih1 ih2 =>
    simp only [AV.under, Bool.and_eq_true] at hb
    exact .clo fn first captured f c hf hc (fun j x hx => ih1 j x hx (underL_get hb.1 hx)) (fun j x hx => ih2 j x hx (underL_get hb.2 hx))
  | agg cells cs hl h1 h ih =>
    simp only [AV.under] at hb
    exact .agg cells cs hl h1 fun j x hx => ih j x hx (underL_get hb hx)
  | tup cells cs hl h ih =>
    simp only [AV.under] at hb
    exact .tup cells cs hl fun j x hx => ih j x hx (underL_get hb hx)

theorem BRel.cut {ρ : Ghost} {S : St} {w : World} {B b m : Nat} {k : Blk} (hm : m ≤ S.len) (h : BRel ρ S w B b k) (hb : k.under m = true) : BRel (ρ.cut m) (S.trunc m) w B b k := by
  cases k with
  | dead => trivial
  | row cells =>
    obtain ⟨c, e, f, h1, h2, h3, h4, h5⟩ := h
    exact ⟨c, e, f, h1, h2, h3, h4, fun j x hx => (h5 j x hx).cut hm (underL_get hb hx)⟩
  | map ents =>
    obtain ⟨es, cl, h0, h1, h2, h3, h4, h5⟩ := h
    refine ⟨es, cl, h0, h1, h2, h3, h4, fun j p e hp he => ?_⟩
    have := List.all_eq_true.1 hb p (List.mem_of_getElem? hp)
    simp only [Bool.and_eq_true] at this
    exact ⟨(h5 j p e hp he).1.cut hm this.1, (h5 j p e hp he).2.cut hm this.2⟩
  | siter s pos => exact h
  | miter m s => trivial

/-- Blocks from m on are let go. -/
theorem SRel.cut {W0 : World} {ρ : Ghost} {S : St} {w : World} {m : Nat} (h : SRel W0 ρ S w) (hm : m ≤ S.len) (hb : ∀ i, i < m → (S.get i).2.under m = true) : SRel W0 (ρ.cut m) (S.trunc m) w := by
  have sub : ∀ i p, ρ.cut m i = some p → ρ i = some p ∧ i < m := by
    intro i p hp
    unfold Ghost.cut at hp
    split at hp
    · exact ⟨hp, by assumption⟩
    · cases hp
  refine ⟨h.below, fun i B b hr => h.new i B b (sub _ _ hr).1, fun i p hp => by rw [St.len_trunc]; have := (sub _ _ hp).2; omega, fun i B b hr => h.lt i B b (sub _ _ hr).1, fun i j B b c hi hj => h.inj i j B b c (sub _ _ hi).1 (sub _ _ hj).1, fun i B b hr => ?_, fun i => ?_⟩
  · obtain ⟨h1, h2⟩ := sub _ _ hr
    rw [St.get_trunc, if_pos h2]
    exact (h.blk i B b h1).cut hm (hb i h2)
  · rw [St.get_trunc]
    split
    · rename_i hi; exact Blk.under_mono (by rw [St.len_trunc]; omega) _ (hb i hi)
    · rfl

theorem Ext.cut {ρ ρ' : Ghost} {S S' : St} {w w' : World} {m : Nat} (h : Ext ρ S w ρ' S' w') (hd : ∀ i p, ρ i = some p → i < S.len) (h0 : S.len ≤ m) (hm : m ≤ S'.len) : Ext ρ S w (ρ'.cut m) (S'.trunc m) w' := by
  refine ⟨h.hsize, h.cells, h.old, fun B hB hp => h.pr B hB (priv_cut hp), by rw [St.len_trunc]; omega, fun i => ?_, fun i p hp hv => ?_⟩
  · rw [St.get_trunc]
    split
    · exact h.ver i
    · rename_i hi; rw [St.get_ge S (by omega)]; exact Nat.le_refl _
  · have := hd i p hp
    rw [St.get_trunc, if_pos (by omega)] at hv
    simp only [Ghost.cut]
    rw [if_pos (by omega)]
    exact h.rho i p hp hv

/-- A value as it leaves: rows that belonged to the call alone are told by what they hold. -/
def frz (S : St) (m : Nat) : Nat → AV → AV
  | 0, x => x
  | n + 1, x =>
    match x with
    | .ref id ver k off len =>
      if m ≤ id ∧ (S.get id).1 = ver then
        match (S.get id).2 with
        | .row cells => if off + len * k ≤ cells.length then .list false len (((cells.drop off).take (len * k)).map (frz S m n)) else x
        | _ => x
      else x
    | .list fl l cells => .list fl l (cells.map (frz S m n))
    | .agg cs => .agg (cs.map (frz S m n))
    | .tup cs => .tup (cs.map (frz S m n))
    | .iface t y => .iface t (frz S m n y)
    | x => x

theorem VRel.frz {W0 : World} {ρ : Ghost} {S : St} {w : World} {m : Nat} (hS : SRel W0 ρ S w) (hm : m ≤ S.len) : ∀ (n : Nat) (x : AV) (v : Value), VRel ρ S w x v → (Abs.frz S m n x).under m = true → VRel (ρ.cut m) (S.trunc m) w (Abs.frz S m n x) v
  | 0, x, v, h, hb => h.cut hm hb
  | n + 1, x, v, h, hb => by
    have ih := VRel.frz hS hm n
    have mapped : ∀ {cells : List AV} {cs : Nat → Value}, (∀ j x, cells[j]? = some x → VRel ρ S w x (cs j)) → underL m (cells.map (Abs.frz S m n)) = true → ∀ j x, (cells.map (Abs.frz S m n))[j]? = some x → VRel (ρ.cut m) (S.trunc m) w x (cs j) := by
      intro cells cs h hb j x hx
      have hbx := underL_get hb hx
      rw [List.getElem?_map] at hx
      cases hc : cells[j]? with
      | none => simp [hc] at hx
      | some y =>
        simp only [hc, Option.map_some, Option.some.injEq] at hx
        subst hx
        exact ih y _ (h j y hc) hbx
    cases h with
    | ref id ver k off len v h1 hid hver hp =>
      have hself : VRel ρ S w (.ref id ver k off len) v := .ref id ver k off len v h1 hid hver hp
      simp only [Abs.frz] at hb ⊢
      split at hb
      · rename_i hc
        rw [if_pos hc]
        split at hb
        · rename_i cells hcells
          split at hb
          · rename_i hle
            simp only [if_pos hle]
            obtain ⟨addr, cap, rfl, hlc, hcap⟩ := hp hc.2
            simp only [AV.under] at hb
            rcases hcap with hcap | ⟨B, b, c, e, f, hr, rfl, hw, hsz⟩
            · have : len = 0 := by omega
              subst this
              exact .list _ _ _ _ _ (fun _ => Go.undef) hlc (fun hf => by cases hf) (.inl (by simp)) (fun j hj => by simp at hj) (fun j x hx => by simp at hx)
            · obtain ⟨cs, c1, c2, c3⟩ := row_cells hS hr hcells
              refine .list _ _ _ _ _ (fun j => cs (off + j)) hlc (fun hf => by cases hf) (.inr ⟨B, b + off, rfl, ?_, fun j hj => ?_⟩) (fun j hj => ?_) (mapped (cs := fun j => cs (off + j)) (fun j x hx => ?_) hb)
              · rintro ⟨i, b', hb'⟩
                unfold Ghost.cut at hb'
                split at hb'
                · rename_i hi
                  have := hS.inj _ _ _ _ _ hb' hr
                  omega
                · cases hb'
              · simp at hj; rw [Nat.add_assoc]; exact c1 _ (by omega)
              · simp at hj; exact c2 _ (by omega)
              · rw [List.getElem?_take] at hx
                split at hx
                · rw [List.getElem?_drop] at hx; exact c3 _ x hx
                · cases hx
          · rename_i hle
            simp only [if_neg hle]
            exact hself.cut hm hb
        · exact hself.cut hm hb
      · rename_i hc
        rw [if_neg hc]; exact hself.cut hm hb
    | list fl l cells addr cap cs hn hfl ha h1 hh =>
      simp only [Abs.frz, AV.under] at hb ⊢
      refine .list _ _ _ _ _ cs hn hfl ?_ (fun j hj => h1 j (by simpa using hj)) (mapped hh hb)
      rcases ha with ha | ⟨B, o, g1, g2, g3⟩
      · exact .inl (by simp [ha])
      · exact .inr ⟨B, o, g1, fun hp => g2 (priv_cut hp), fun j hj => g3 j (by simpa using hj)⟩
    | agg cells cs hl h1 hh =>
      simp only [Abs.frz, AV.under] at hb ⊢
      exact .agg _ _ (by simpa using hl) h1 (mapped (cs := fun j => cs.getD j Go.undef) hh hb)
    | tup cells cs hl hh =>
      simp only [Abs.frz, AV.under] at hb ⊢
      exact .tup _ _ (by simpa using hl) (mapped (cs := fun j => cs.getD j Go.undef) hh hb)
    | iface t x v h =>
      simp only [Abs.frz, AV.under] at hb ⊢
      exact .iface _ _ _ (ih x v h hb)
    | undef v => exact VRel.cut hm (.undef v) hb
    | int k n => exact VRel.cut hm (.int k n) hb
    | bool b => exact VRel.cut hm (.bool b) hb
    | str s => exact VRel.cut hm (.str s) hb
    | val v => exact VRel.cut hm (.val v) hb
    | ptr id ver off v h1 hid hver h => exact VRel.cut hm (.ptr id ver off v h1 hid hver h) hb
    | eptr cells off B o cs hc h1 h => exact VRel.cut hm (.eptr cells off B o cs hc h1 h) hb
    | map id ver v h1 hid hver h => exact VRel.cut hm (.map id ver v h1 hid hver h) hb
    | clo fn first captured f c hf hc h1 h2 => exact VRel.cut hm (.clo fn first captured f c hf hc h1 h2) hb

theorem frz_under (S : St) (m : Nat) : ∀ (n : Nat) (x : AV), x.under m = true → frz S m n x = x
  | 0, _, _ => rfl
  | n + 1, x, h => by
    have ih := frz_under S m n
    have mapped : ∀ l : List AV, underL m l = true → l.map (frz S m n) = l := fun l hl => by
      have : l.map (frz S m n) = l.map id := List.map_congr_left fun x hx => ih x ((underL_iff m l).1 hl x hx)
      simpa using this
    cases x <;> simp only [AV.under] at h <;> simp only [frz]
    case ref id ver k off len =>
      have : ¬ (m ≤ id ∧ (S.get id).1 = ver) := by
        have : id < m := by simpa using h
        omega
      rw [if_neg this]
    case list fl l cells => rw [mapped cells h]
    case agg cells => rw [mapped cells h]
    case tup cells => rw [mapped cells h]
    case iface t y => rw [ih y h]

end Go.Proofs.YtnfiihdebonadaaGreatDoor.Abs
namespace Go.Proofs.YtnfiihdebonadaaGreatDoor.Abs

/-- A range over a string. -/
def rangeA (S : St) : AV → Option (AV × St)
  | .str s => some (.ptr S.len 0 0, S.push (.siter s 0))
  | _ => none
/-- The next rune. -/
def nextA (S : St) : AV → Option (AV × St)
  | .ptr id ver off =>
    if (S.get id).1 = ver ∧ off = 0 then
      match (S.get id).2 with
      | .siter s pos =>
        if pos < s.length then some (.tup [.bool true, .int .i64 pos, .int .i32 (Utf8.decode ⟨s.toArray⟩ pos).1], S.put id (ver, .siter s (pos + (Utf8.decode ⟨s.toArray⟩ pos).2)))
        else some (.tup [.bool false], S)
      | _ => none
    else none
  | _ => none

section
variable {P : Program} {W0 : World} {ρ : Ghost} {S S' : St} {w : World} {x : AV} {v : Value} {r : AV}
theorem range_sound {T : TypeId} (h : SRel W0 ρ S w) (hT : P.underlying T = some .string) (hx : VRel ρ S w x v) (he : rangeA S x = some (r, S')) : Res P W0 ρ S w (Instr.range T v) r S' := by
  cases hx with
  | str s =>
    cases he
    have hn : ρ S.len = none := by
      cases hr : ρ S.len with
      | none => rfl
      | some p => have := h.dom _ _ hr; omega
    have hst := h.step (S' := S.push (.siter s 0)) (w' := w.alloc (.stringIter ⟨s.toArray⟩ 0)) S.len 0 w.heap.size 0 (.siter s 0) (by simp) (by simp) (fun i hi => St.get_push_ne S _ hi) (St.get_push_eq S _) (by rw [St.get_ge S (Nat.le_refl _)]; exact Nat.le_refl _)
      (by intro _ p hp; rw [hn] at hp; cases hp) rfl rfl rfl (by simp) (fun j hj _ => RowKit.Below.heap_alloc w _ j hj) (fun j c e f hj => ⟨c, f, by
        rw [RowKit.Below.heap_alloc w _ j (by
          rcases Nat.lt_or_ge j w.heap.size with h' | h'
          · exact h'
          · rw [Array.getElem?_eq_none h'] at hj; cases hj)]
        exact hj, rfl⟩) (.inr (Nat.le_refl _)) (by simp) (fun _ => ⟨rfl, heap_alloc_new w _⟩)
    exact ⟨_, _, _, by simp [Instr.range, run_underlying hT, newObj, Sem.run, Result.andThen], .newptr _ _ _, hst.1, hst.2⟩
  | _ => simp [rangeA] at he
theorem convIS_sound (h : SRel W0 ρ S w) {src dst : TypeId} {k : IntKind} {n : Int} (hs : (P.underlying src).isSome = true) (hd : P.underlying dst = some .string) (hx : VRel ρ S w (.int k n) v) :
    Res P W0 ρ S w (convert src dst v) (.str (Utf8.encode n).data.toList) S := by
  cases hx
  refine .pure h (run_convert_int_string w src dst k n hs hd) ?_
  have e : Utf8.encode n = ⟨(Utf8.encode n).data.toList.toArray⟩ := by simp
  rw [e]
  exact .str _
theorem next_sound {T : TypeId} (h : SRel W0 ρ S w) (hx : VRel ρ S w x v) (he : nextA S x = some (r, S')) : Res P W0 ρ S w (Instr.next v true T) r S' := by
  cases hx with
  | ptr id ver off v h1 hid hver hp =>
    simp only [nextA] at he
    split at he
    · rename_i hv
      obtain ⟨B, b, hr, rfl⟩ := hp hv.1
      obtain ⟨hv, rfl⟩ := hv
      have hb := h.blk id B b hr
      split at he
      · rename_i s pos hk
        rw [hk] at hb
        obtain ⟨rfl, hh⟩ := hb
        split at he
        · rename_i hlt
          cases he
          have hd := h.dom id _ hr
          have hlB := h.lt id _ _ hr
          have hs := Ghost.set_self hr
          have hst := h.step (S' := S.put id (ver, .siter s (pos + (Utf8.decode ⟨s.toArray⟩ pos).2))) (w' := { w with heap := w.heap.setIfInBounds B (.stringIter ⟨s.toArray⟩ (pos + (Utf8.decode ⟨s.toArray⟩ pos).2)) }) id ver B 0 (.siter s (pos + (Utf8.decode ⟨s.toArray⟩ pos).2))
            (by simp) (by simpa using hd) (fun i hi => St.get_put_ne S _ _ hi) (St.get_put_eq S _ _ hd) (by rw [hv]; exact Nat.le_refl _) (fun _ p hp => by rw [hr] at hp; cases hp; rfl) rfl rfl rfl (by simp)
            (fun j hj hne => by
              have : B ≠ j := fun e => hne 0 (by rw [hr, e])
              simp [Array.getElem?_setIfInBounds_ne this]) (fun j c e f hj => ⟨c, f, by
                have : B ≠ j := by rintro rfl; rw [hh] at hj; cases hj
                simpa [Array.getElem?_setIfInBounds_ne this] using hj, rfl⟩) (.inl ⟨0, hr⟩) (by simpa using hlB) (fun _ => ⟨rfl, by simp [hlB]⟩)
          rw [hs] at hst
          refine ⟨.tuple #[.bool true, .int .i64 pos, .int .i32 (Utf8.decode ⟨s.toArray⟩ pos).1], _, ρ, ?_, ?_, hst.1, hst.2⟩
          · have hsz : pos < (⟨s.toArray⟩ : ByteArray).size := by simpa [ByteArray.size] using hlt
            simp only [Instr.next, getObj, setObj, Sem.run_bind, Sem.run, Result.andThen, Nat.zero_add, hh, hsz, if_true]
            simp [goInt, Sem.run, Result.andThen, hlB]
          · refine .tup _ _ rfl ?_
            intro j z hz
            match j with
            | 0 => cases hz; exact .bool _
            | 1 => cases hz; exact .int _ _
            | 2 => cases hz; exact .int _ _
            | j + 3 => simp at hz
        · rename_i hge
          cases he
          refine .pure h (v := .tuple #[.bool false]) ?_ ?_
          · have hsz : ¬ pos < (⟨s.toArray⟩ : ByteArray).size := by simpa [ByteArray.size] using hge
            simp only [Instr.next, getObj, setObj, Sem.run_bind, Sem.run, Result.andThen, Nat.zero_add, hh, hsz, if_false]
            simp [Sem.run, Result.andThen]
          · refine .tup _ _ rfl ?_
            intro j z hz
            match j with
            | 0 => cases hz; exact .bool _
            | j + 1 => simp at hz
      · cases he
    · cases he
  | _ => simp [nextA] at he
end
end Go.Proofs.YtnfiihdebonadaaGreatDoor.Abs
namespace Go.Proofs.YtnfiihdebonadaaGreatDoor.Abs

inductive AOp where
  | mv (x : Operand)
  | pick (c a b : Operand)
  | alloc (zero : List Value)
  | box (x : Operand)
  | build (zero : List Value) (parts : List (Nat × Nat × Operand))
  | bslice (n : Nat) (zero : List Value) (parts : List (Nat × Nat × Operand))
  | load (n : Nat) (ag : Bool) (x : Operand)
  | store (n : Nat) (x y : Operand)
  | nilchk (x : Operand)
  | bin (kd : EqK) (op : BinOp) (x y : Operand)
  | un (op : UnOp) (x : Operand)
  | convI (k : IntKind) (x : Operand)
  | convSS (x : Operand)
  | convSB (x : Operand)
  | convBS (x : Operand)
  | mkI (T : TypeId) (x : Operand)
  | mkF (fn : Fn) (first captured : List Operand)
  | mkSl (k bytes : Nat) (zero : List Value) (l c : Operand)
  | slice (k : Nat) (x : Operand) (lo hi : Option Operand)
  | slice3 (k : Nat) (x : Operand) (lo : Option Operand) (hi mx : Operand)
  | sliceStr (x : Operand) (lo hi : Option Operand)
  | sliceArr (n k : Nat) (x : Operand) (lo hi : Option Operand)
  | faddr (off : Nat) (x : Operand)
  | field (off n : Nat) (ag : Bool) (x : Operand)
  | iaddr (k : Nat) (x i : Operand)
  | iaddrArr (n k : Nat) (x i : Operand)
  | idx (x i : Operand)
  | idxArr (n k : Nat) (ag : Bool) (x i : Operand)
  | extract (i : Nat) (x : Operand)
  | lenS (x : Operand)
  | lenL (x : Operand)
  | min (x y : Operand)
  | max (x y : Operand)
  | append (k bytes : Nat) (x y : Operand)
  | appendZ (k bytes : Nat) (zero : List Value) (x y : Operand)
  | copy (k : Nat) (x y : Operand)
  | call (f : FuncId) (args : List Operand)
  | callv (f : Operand) (args : List Operand)
  | convIS (x : Operand)
  | rangeS (x : Operand)
  | nextS (x : Operand)
  | bad

def parts? (pl : List (Nat × Nat)) (ps : Array (Nat × Operand)) : Option (List (Nat × Nat × Operand)) := ps.toList.mapM fun q => (pl[q.1]?).map fun p => (p.1, p.2, q.2)
def eparts (k : Nat) (ps : Array (Nat × Operand)) : List (Nat × Nat × Operand) := ps.toList.map fun q => (q.1 * k, k, q.2)
def okParts (ps : Array (Nat × Operand)) : Bool := ps.toList.all fun q => okOpd q.2
def okOpt : Option Operand → Bool
  | none => true
  | some x => okOpd x
def sl? (P : Program) (T : TypeId) : Option TypeId := match P.underlying T with | some (.slice e) => some e | _ => none
def arr? (P : Program) (T : TypeId) : Option (Nat × TypeId) := match P.underlying T with | some (.array n e) => some (n, e) | _ => none
def isStr (P : Program) (T : TypeId) : Bool := match P.underlying T with | some .string => true | _ => false
def isU8 (P : Program) (T : TypeId) : Bool := match P.underlying T with | some (.int .u8) => true | _ => false
def zero1 (P : Program) (T : TypeId) : Option (List Value) := (tyZero P T).bind fun z => if z.cells.toList.all (·.oneCell') = true then some z.cells.toList else none

def isInt (P : Program) (T : TypeId) : Bool := match P.underlying T with | some (.int _) => true | _ => false

theorem sl?_eq {P : Program} {T e : TypeId} (h : sl? P T = some e) : P.underlying T = some (.slice e) := by
  unfold sl? at h; split at h
  · cases h; assumption
  · cases h
theorem arr?_eq {P : Program} {T e : TypeId} {n : Nat} (h : arr? P T = some (n, e)) : P.underlying T = some (.array n e) := by
  unfold arr? at h; split at h
  · cases h; assumption
  · cases h
theorem isStr_eq {P : Program} {T : TypeId} (h : isStr P T = true) : P.underlying T = some .string := by
  unfold isStr at h; split at h
  · assumption
  · cases h
theorem isU8_eq {P : Program} {T : TypeId} (h : isU8 P T = true) : P.underlying T = some (.int .u8) := by
  unfold isU8 at h; split at h
  · assumption
  · cases h
theorem isInt_eq {P : Program} {T : TypeId} (h : isInt P T = true) : ∃ k, P.underlying T = some (.int k) := by
  unfold isInt at h; split at h
  · exact ⟨_, by assumption⟩
  · cases h
theorem zero1_eq {P : Program} {T : TypeId} {l : List Value} (h : zero1 P T = some l) : ∃ z, tyZero P T = some z ∧ z.cells.toList.all (·.oneCell') = true ∧ l = z.cells.toList := by
  unfold zero1 at h
  cases hz : tyZero P T with
  | none => simp [hz] at h
  | some z =>
    simp only [hz, Option.bind_some] at h
    split at h
    · rename_i h1; cases h; exact ⟨z, rfl, h1, rfl⟩
    · cases h

/-- The callee's body is there. -/
def callable (P : Program) (f : FuncId) : Bool := match P.funcs[f]? with | some fn => fn.body.isSome && !(fn.name == "runtime.NumGoroutine") | none => false

def compileB (P : Program) (b : Builtin) (args : Array Operand) (tys : Array TypeId) : Option AOp :=
  match b, args.toList, tys.toList with
  | .len, [x], [T] => if okOpd x then (if isStr P T then some (.lenS x) else match sl? P T with | some _ => some (.lenL x) | none => none) else none
  | .min, [x, y], _ => if okOpd x && okOpd y then some (.min x y) else none
  | .max, [x, y], _ => if okOpd x && okOpd y then some (.max x y) else none
  | .append, [x, y], [T, X] =>
    if okOpd x && okOpd y && (isStr P X || (sl? P X).isSome) then (sl? P T).bind fun e => (tySize P e).bind fun k => (tyBytes P e).bind fun b => (tyZero P e).bind fun z => if z.cells.size = k then some (.append k b x y) else none
    else if okOpd x && okOpd y && isInt P X then (sl? P T).bind fun e => (tySize P e).bind fun k => (tyBytes P e).bind fun b => (tyZero P e).bind fun z => if z.cells.size = k ∧ 0 < k ∧ z.cells.toList.all (·.oneCell') = true then some (.appendZ k b z.cells.toList x y) else none
    else none
  | .copy, [x, y], [T, _] => if okOpd x && okOpd y then (sl? P T).bind fun e => (tySize P e).bind fun k => some (.copy k x y) else none
  | _, _, _ => none

def compileOp1 (P : Program) (o : Op) : Option AOp :=
  match o with
  | .move x => if okOpd x then some (.mv x) else none
  | .assign x => if okOpd x then some (.mv x) else none
  | .pick c a b => if okOpd c && okOpd a && okOpd b then some (.pick c a b) else none
  | .alloc T => (zero1 P T).map .alloc
  | .range T x => if okOpd x && isStr P T then some (.rangeS x) else none
  | .next x true => if okOpd x then some (.nextS x) else none
  | .box _ x => if okOpd x then some (.box x) else none
  | .build T ps =>
    if okParts ps then
      match P.underlying T with
      | some (.struct fs) => (fieldPlaces P fs).bind fun pl => (zero1 P T).bind fun z => (parts? pl ps).map fun q => .build z q
      | some (.array _ e) => (tySize P e).bind fun k => (zero1 P T).map fun z => .build z (eparts k ps)
      | _ => none
    else none
  | .buildSlice T n ps =>
    if okParts ps then (sl? P T).bind fun e => (tySize P e).bind fun k => (zero1 P e).bind fun z => if z.length = k ∧ 0 < k ∧ n * k ≤ 16777216 then some (.bslice n (repZ z n) (eparts k ps)) else none
    else none
  | .load T x => if okOpd x then (tyAgg P T).bind fun ag => (tySize P T).map fun n => .load n ag x else none
  | .store T x y => if okOpd x && okOpd y then (tySize P T).map fun n => .store n x y else none
  | .nilCheck x => if okOpd x then some (.nilchk x) else none
  | .binOp op T x y _ => if okOpd x && okOpd y then (eqKind P T y).map fun kd => .bin kd op x y else none
  | .unOp op _ x => if okOpd x then some (.un op x) else none
  | .convert src dst x =>
    if okOpd x && (P.underlying src).isSome then
      match P.underlying dst with
      | some (.int k) => some (.convI k x)
      | some .string => match sl? P src with
        | some e => if isU8 P e then some (.convBS x) else none
        | none => if isStr P src then some (.convSS x) else if isInt P src then some (.convIS x) else none
      | some (.slice e) => if isU8 P e && isStr P src then some (.convSB x) else none
      | _ => none
    else none
  | .makeInterface T x => if okOpd x then (match P.underlying T with | some (.interface _) => none | some _ => some (.mkI T x) | none => none) else none
  | .makeFunc fn first captured => if first.toList.all okOpd && captured.toList.all okOpd then some (.mkF fn first.toList captured.toList) else none
  | .makeSlice T l c => if okOpd l && okOpd c then (sl? P T).bind fun e => (tySize P e).bind fun k => (tyBytes P e).bind fun b => (zero1 P e).bind fun z => if z.length = k ∧ 0 < k then some (.mkSl k b z l c) else none else none
  | .slice T x lo hi mx =>
    if okOpd x && okOpt lo && okOpt hi && okOpt mx then
      match mx with
      | none =>
        match P.underlying T with
        | some (.slice e) => (tySize P e).map fun k => .slice k x lo hi
        | some .string => some (.sliceStr x lo hi)
        | some (.array n e) => (tySize P e).map fun k => .sliceArr n k x lo hi
        | _ => none
      | some m =>
        match P.underlying T, hi with
        | some (.slice e), some h => (tySize P e).map fun k => .slice3 k x lo h m
        | _, _ => none
    else none
  | .fieldAddr T x i =>
    if okOpd x then
      match P.underlying T with
      | some (.struct fs) => (fs[i]?).bind fun f => match tySize P f.type with | some (_ + 1) => some (.faddr f.offset x) | _ => none
      | _ => none
    else none
  | .field T x i =>
    if okOpd x then
      match P.underlying T with
      | some (.struct fs) => (fs[i]?).bind fun f => (tyAgg P f.type).bind fun ag => (tySize P f.type).map fun n => .field f.offset n ag x
      | _ => none
    else none
  | .indexAddr T x i =>
    if okOpd x && okOpd i then
      match P.underlying T with
      | some (.slice e) => (tySize P e).map fun k => .iaddr k x i
      | some (.array n e) => (tySize P e).map fun k => .iaddrArr n k x i
      | _ => none
    else none
  | .index T x i =>
    if okOpd x && okOpd i then
      match P.underlying T with
      | some .string => some (.idx x i)
      | some (.array n e) => (tyAgg P e).bind fun ag => (tySize P e).map fun k => .idxArr n k ag x i
      | _ => none
    else none
  | .extract x i => if okOpd x then some (.extract i x) else none
  | .call c =>
    if c.args.toList.all okOpd then
      match c.callee with
      | .builtin b => compileB P b c.args c.argTypes
      | .value (.func f) => if callable P f then some (.call f c.args.toList) else none
      | .value x => if okOpd x then some (.callv x c.args.toList) else none
      | _ => none
    else none
  | _ => none

/-- What is not told is told as bad: it may never be reached. -/
def compileOp (P : Program) (o : Op) : Option AOp := match compileOp1 P o with | some a => some a | none => some .bad

theorem compileOp_eq {P : Program} {o : Op} {a : AOp} (h : compileOp P o = some a) (hb : a ≠ .bad) : compileOp1 P o = some a := by
  unfold compileOp at h
  split at h
  · cases h; assumption
  · cases h; exact (hb rfl).elim

def evParts (e : Env) (ps : List (Nat × Nat × Operand)) : List (Nat × Nat × AV) := ps.map fun q => (q.1, q.2.1, evA e q.2.2)
def evOpt (e : Env) : Option Operand → Option AV
  | none => none
  | some x => some (evA e x)

def nilchkA (S : St) : AV → Option AV
  | .ptr id ver off => if (S.get id).1 = ver then some (.ptr id ver off) else none
  | .eptr cs off => some (.eptr cs off)
  | _ => none

def lenSA : AV → Option AV
  | .str s => some (.int .i64 s.length)
  | _ => none
def lenLA (S : St) : AV → Option AV
  | .list _ n _ => some (.int .i64 n)
  | .ref id ver _ _ len => if (S.get id).1 = ver then some (.int .i64 len) else none
  | _ => none
def minA (x y : AV) : Option AV :=
  match x, y with
  | .int k a, .int _ b => some (.int k (if b < a then b else a))
  | _, _ => none
def maxA (x y : AV) : Option AV :=
  match x, y with
  | .int k a, .int _ b => some (.int k (if a < b then b else a))
  | _, _ => none

/-- What an operation gives, where nothing is left open. -/
def ev (ao : AOp) (e : Env) (S : St) : Option (AV × St) :=
  match ao with
  | .mv x => some (evA e x, S)
  | .pick c a b => match evA e c with | .bool t => some (if t = true then evA e a else evA e b, S) | _ => none
  | .alloc z => some (.ptr S.len 0 0, S.push (.row (z.map AV.ofValue1)))
  | .convIS x => match evA e x with | .int _ n => some (.str (Utf8.encode n).data.toList, S) | _ => none
  | .rangeS x => rangeA S (evA e x)
  | .nextS x => nextA S (evA e x)
  | .box x => (evA e x).cellsOf.map fun cs => (.ptr S.len 0 0, S.push (.row cs))
  | .build z ps => (fillA (z.map AV.ofValue1) (evParts e ps)).map fun cs => (.agg cs, S)
  | .bslice n z ps => (fillA (z.map AV.ofValue1) (evParts e ps)).map fun cs => (.list true n cs, S)
  | .load n ag x => (loadA S n ag (evA e x)).map fun r => (r, S)
  | .store n x y => (storeA S n (evA e x) (evA e y)).map fun S' => (.undef, S')
  | .nilchk x => (nilchkA S (evA e x)).map fun r => (r, S)
  | .bin kd op x y => (binA S kd op (evA e x) (evA e y)).map fun r => (r, S)
  | .un op x => (unA op (evA e x)).map fun r => (r, S)
  | .convI k x => (convIA k (evA e x)).map fun r => (r, S)
  | .convSS x => match evA e x with | .str s => some (.str s, S) | _ => none
  | .convSB x => match evA e x with | .str s => some (.list false s.length (s.map u8), S) | _ => none
  | .convBS x => match evA e x with
    | .str _ => none
    | y => (rd S 1 y).bind fun p => (bytesOf p.2).map fun s => (.str s, S)
  | .mkI T x => some (.iface T (evA e x), S)
  | .mkF fn first captured => some (.clo fn (first.map (evA e)) (captured.map (evA e)), S)
  | .mkSl k b z l c => mkSlA S k b z (evA e l) (evA e c)
  | .slice k x lo hi => (sliceS S k (evA e x) (evOpt e lo) (evOpt e hi)).map fun r => (r, S)
  | .slice3 k x lo hi mx => (sliceS3 S k (evA e x) (evOpt e lo) (evA e hi) (evA e mx)).map fun r => (r, S)
  | .sliceStr x lo hi => (sliceStr (evA e x) (evOpt e lo) (evOpt e hi)).map fun r => (r, S)
  | .sliceArr n k x lo hi => (sliceArr S n k (evA e x) (evOpt e lo) (evOpt e hi)).map fun r => (r, S)
  | .faddr off x => (faddrA S off (evA e x)).map fun r => (r, S)
  | .field off n ag x => match evA e x with | .agg cells => (sliceA cells off n ag).map fun r => (r, S) | _ => none
  | .iaddr k x i => (iaddrA S k (evA e x) (evA e i)).map fun r => (r, S)
  | .iaddrArr n k x i => (iaddrArr S n k (evA e x) (evA e i)).map fun r => (r, S)
  | .idx x i => (idxA (evA e x) (evA e i)).map fun r => (r, S)
  | .idxArr n k ag x i => match evA e x with | .agg cells => (idxIn n (evA e i)).bind fun j => (sliceA cells (j * k) k ag).map fun r => (r, S) | _ => none
  | .extract i x => match evA e x with | .tup xs => (xs[i]?).map fun r => (r, S) | _ => none
  | .lenS x => (lenSA (evA e x)).map fun r => (r, S)
  | .lenL x => (lenLA S (evA e x)).map fun r => (r, S)
  | .min x y => (minA (evA e x) (evA e y)).map fun r => (r, S)
  | .max x y => (maxA (evA e x) (evA e y)).map fun r => (r, S)
  | .append k b x y => appendA S k b (evA e x) (evA e y)
  | .appendZ k b z x y => appendZA S k b z (evA e x) (evA e y)
  | .copy k x y => copyA S k (evA e x) (evA e y)
  | .call _ _ => none
  | .callv _ _ => none
  | .bad => none

end Go.Proofs.YtnfiihdebonadaaGreatDoor.Abs
