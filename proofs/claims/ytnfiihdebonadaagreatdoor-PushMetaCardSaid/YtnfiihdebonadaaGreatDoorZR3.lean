import Derived.Test.YtnfiihdebonadaaGreatDoorZP3
import Derived.Test.YtnfiihdebonadaaGreatDoorZAsH
import Derived.Test.YtnfiihdebonadaaGreatDoorZP9
import Derived.Test.YtnfiihdebonadaaGreatDoorZK6
set_option linter.unusedSimpArgs false
set_option linter.unusedVariables false
set_option linter.unusedSectionVars false
namespace Go.Proofs.YtnfiihdebonadaaGreatDoor.Abs
open Go.RowKit

theorem vrel_at {ρ : Ghost} {S : St} {w : World} {e : Nat} {pl : Int} {v : Value} (h : VRel ρ S w (errAV (some (e, pl))) v) : v = .iface 72 (.agg #[.int .i64 pl, .iface 24 (.int .i64 e)]) := by
  cases h with
  | iface t x u h =>
    cases h with
    | agg cells cs hl h1 h =>
      obtain ⟨l⟩ := cs
      match l, hl with
      | [a, b], _ =>
        have ha := h 0 _ rfl
        have hb := h 1 _ rfl
        have ha' : a = .int .i64 pl := vrel_int ha
        subst ha'
        cases hb with
        | iface t x u hc =>
          have : u = .int .i64 e := vrel_int hc
          subst this
          rfl
theorem vrel_nil {ρ : Ghost} {S : St} {w : World} {v u : Value} (h : VRel ρ S w (.val u) v) : v = u := by cases h; rfl
theorem vrel_ptrI {ρ : Ghost} {S : St} {w : World} {T : TypeId} {b ver o : Nat} {v : Value} (h : VRel ρ S w (.iface T (.ptr b ver o)) v) (hv : (S.get b).1 = ver) : ∃ t, v = .iface T (.pointer (some t)) ∧ VRel ρ S w (.ptr b ver o) (.pointer (some t)) := by
  cases h with
  | iface t x u h =>
    cases h with
    | ptr _ _ _ _ h1 hid hver hp =>
      obtain ⟨B, c, hr, rfl⟩ := hp hv
      exact ⟨_, rfl, .ptr _ _ _ _ h1 hid hver hp⟩
theorem store_at {W0 : World} {ρ : Ghost} {S S' : St} {w : World} {T : TypeId} {n b ver : Nat} {y : AV} {u : Value} {t : Addr} (h : SRel W0 ρ S w) (hn : tySize Pr T = some n)
    (hx : VRel ρ S w (.ptr b ver 0) (.pointer (some t))) (hy : ∀ w, VRel ρ S w y u) (he : storeA S n (.ptr b ver 0) y = some S') (w1 : World) (hb : Below w.heap.size w w1) :
    ∃ w', (storeVar T t u).run Pr w1 = .ok () w' ∧ SRel W0 ρ S' w' ∧ Ext ρ S w ρ S' w' := by
  obtain ⟨h1, h2⟩ := h.above hb
  obtain ⟨w', g1, g2, g3⟩ := store_sound (P := Pr) h1 hn (hx.ext h2) (hy w1) he
  refine ⟨w', ?_, g2, h2.trans g3⟩
  simpa [Instr.storeAt, Instr.sureAddr] using g1

/-- errors.As with the error nil. -/
theorem As_nil {W0 : World} {S : St} {t : AV} : Gives Pr W0 Fn.errors_As [errAV none, t] S (.bool false) := by
  refine Gives.of_calls fun ρ w vs hS hA => ?_
  obtain ⟨x, y, rfl, hx, hy⟩ := arel_2 hA
  rw [vrel_nil hx]
  exact ⟨_, .bool false, AsAt.as_nil y w⟩
def IsErrType (W0 : World) : Prop := W0.cell? ⟨Gl.errors_errorType, 0, none⟩ = some (.iface 127 (.agg #[.pointer (some ⟨7, 36, none⟩)]))
theorem As_code {W0 : World} {S : St} {b ver : Nat} {e : Nat} {pl z : Int} (hW : IsErrType W0) (h0 : 0 < W0.heap.size) (hv : S.get b = (ver, .row [.int .i64 z])) :
    CallsA Pr W0 Fn.errors_As [errAV (some (e, pl)), .iface Ty.ptr_api_Errno (.ptr b ver 0)] S fun r S' => r = .bool true ∧ S' = S.put b (ver, .row [.int .i64 e]) := by
  intro ρ w vs hS hA
  obtain ⟨x, y, rfl, hx, hy⟩ := arel_2 hA
  rw [vrel_at hx]
  obtain ⟨t, rfl, ht⟩ := vrel_ptrI hy (by rw [hv])
  refine (AsAt.code1 e pl t w (fun w' => SRel W0 ρ (S.put b (ver, .row [.int .i64 e])) w' ∧ Ext ρ S w ρ (S.put b (ver, .row [.int .i64 e])) w') (by rw [hS.below.cell h0]; exact hW) ?_).mono ?_
  · exact store_at (T := 24) (n := 1) (y := .int .i64 e) hS (by kernel_rfl) ht (fun _ => .int _ _) (by simp [storeA, hv, AV.cellsOf, putC])
  · rintro ev w' ⟨rfl, h1, h2⟩
    exact ⟨_, _, ρ, _, rfl, .bool true, h1, h2, rfl, rfl⟩
theorem As_place {W0 : World} {S : St} {b ver : Nat} {e : Nat} {pl : Int} {z1 z2 : AV} (hW : IsErrType W0) (h0 : 0 < W0.heap.size) (hv : S.get b = (ver, .row [z1, z2])) :
    CallsA Pr W0 Fn.errors_As [errAV (some (e, pl)), .iface Ty.ptr_fault_At (.ptr b ver 0)] S fun r S' => r = .bool true ∧ S' = S.put b (ver, .row [.int .i64 pl, .iface Ty.api_Errno (.int .i64 e)]) := by
  intro ρ w vs hS hA
  obtain ⟨x, y, rfl, hx, hy⟩ := arel_2 hA
  rw [vrel_at hx]
  obtain ⟨t, rfl, ht⟩ := vrel_ptrI hy (by rw [hv])
  refine (AsAt.place1 pl 24 (.int .i64 e) t w (fun w' => SRel W0 ρ (S.put b (ver, .row [.int .i64 pl, .iface Ty.api_Errno (.int .i64 e)])) w' ∧ Ext ρ S w ρ (S.put b (ver, .row [.int .i64 pl, .iface Ty.api_Errno (.int .i64 e)])) w') (by rw [hS.below.cell h0]; exact hW) ?_).mono ?_
  · refine store_at (T := 72) (n := 2) (y := .agg [.int .i64 pl, .iface Ty.api_Errno (.int .i64 e)]) hS (by kernel_rfl) ht (fun _ => ?_) (by simp [storeA, hv, AV.cellsOf, putC])
    refine .agg _ _ rfl (fun j hj => ?_) fun j x hx => ?_
    · match j with
      | 0 => rfl
      | 1 => rfl
      | j + 2 => exact absurd hj (by show ¬ (j + 2 < 2); omega)
    · match j with
      | 0 => cases hx; exact .int _ _
      | 1 => cases hx; exact .iface _ _ _ (.int _ _)
      | j + 2 => simp at hx
  · rintro ev w' ⟨rfl, h1, h2⟩
    exact ⟨_, _, ρ, _, rfl, .bool true, h1, h2, rfl, rfl⟩
def errCode : Option (Nat × Int) → Nat
  | none => 0
  | some (e, _) => e
def errPlace : Option (Nat × Int) → Int
  | none => -1
  | some (_, p) => p
end Go.Proofs.YtnfiihdebonadaaGreatDoor.Abs
namespace Go.Proofs.YtnfiihdebonadaaGreatDoor.Abs
open Go.RowKit
theorem fault_Code {W0 : World} {S : St} {o : Option (Nat × Int)} (hW : IsErrType W0) (h0 : 0 < W0.heap.size) : Gives Pr W0 Fn.fault_Code [errAV o] S (.int .i64 (errCode o)) := by
  cases o with
  | none =>
    refine in_fault_Code (by simp) ?_
    (repeat' (first | (with_reducible refine @Br_pos _ _ _ _ _ _ (by first | assumption | omega) ?_) | (with_reducible refine @Br_neg _ _ _ _ _ _ (by first | assumption | omega) ?_) | (with_reducible refine @Br_dec _ _ _ _ _ _ (fun _ => ?_) (fun _ => ?_)) | (with_reducible refine Br_bt (by assumption) ?_) | (with_reducible refine Br_bf (by assumption) ?_) | (with_reducible refine Br_b (fun _ => ?_) (fun _ => ?_)) | (with_reducible refine IfK_pos (by first | assumption | omega) ?_) | (with_reducible refine IfK_neg (by first | assumption | omega) ?_) | (with_reducible refine IfK_bf (by assumption) ?_) | (with_reducible refine IfK_dec (fun _ => ?_) (fun _ => ?_)) | (with_reducible refine And.intro ?_ ?_) | (refine (As_nil).go ?_) | simp (maxSteps := 10000000) (disch := ((try simp only [len_pushv, len_put, len_putB, List.length_take, List.length_drop, List.length_append, List.length_map, List.length_replicate, List.length_set, List.length_cons, List.length_nil, true_and, and_true]); first | done | omega | (repeat' (first | exact St.le.refl _ | assumption | refine le_pushv ?_ | refine le_put ?_ (by first | omega | (simp only [len_pushv, len_put]; omega)))))) only [W, Gives, pinsAfter, ↓reduceIte, Nat.reduceEqDiff, Nat.reduceAdd, Nat.reduceMul, Nat.reduceSub, ne_eq, Int.reduceEq, Int.reduceNeg, Int.reduceToNat, Int.reduceAdd, Int.reduceSub, Int.reduceMul, Int.reduceDiv, Int.reduceMod, Int.reduceLT, Int.reduceLE, Nat.reduceLeDiff, Nat.reduceBEq, Nat.reduceLT, code_fault_Code, code_fault_Code_k0]))
    exact ret_x (by repeat' (first | exact St.le.refl _ | assumption | refine le_pushv ?_ | refine le_put ?_ (by first | omega | (simp only [len_pushv, len_put]; omega)) | refine le_trunc ?_ (by first | omega | (simp only [len_pushv, len_put]; omega)))) rfl ⟨rfl, rfl⟩
  | some p =>
    obtain ⟨e, pl⟩ := p
    refine in_fault_Code (by simp) ?_
    (repeat' (first | (with_reducible refine @Br_pos _ _ _ _ _ _ (by first | assumption | omega) ?_) | (with_reducible refine @Br_neg _ _ _ _ _ _ (by first | assumption | omega) ?_) | (with_reducible refine @Br_dec _ _ _ _ _ _ (fun _ => ?_) (fun _ => ?_)) | (with_reducible refine Br_bt (by assumption) ?_) | (with_reducible refine Br_bf (by assumption) ?_) | (with_reducible refine Br_b (fun _ => ?_) (fun _ => ?_)) | (with_reducible refine IfK_pos (by first | assumption | omega) ?_) | (with_reducible refine IfK_neg (by first | assumption | omega) ?_) | (with_reducible refine IfK_bf (by assumption) ?_) | (with_reducible refine IfK_dec (fun _ => ?_) (fun _ => ?_)) | (with_reducible refine And.intro ?_ ?_) | (refine (As_code hW h0 (get_pushv_at rfl)).mono ?_; rintro _ _ ⟨rfl, rfl⟩) | simp (maxSteps := 10000000) (disch := ((try simp only [len_pushv, len_put, len_putB, List.length_take, List.length_drop, List.length_append, List.length_map, List.length_replicate, List.length_set, List.length_cons, List.length_nil, true_and, and_true]); first | done | omega | (repeat' (first | exact St.le.refl _ | assumption | refine le_pushv ?_ | refine le_put ?_ (by first | omega | (simp only [len_pushv, len_put]; omega)))))) only [W, Gives, pinsAfter, ↓reduceIte, Nat.reduceEqDiff, Nat.reduceAdd, Nat.reduceMul, Nat.reduceSub, ne_eq, Int.reduceEq, Int.reduceNeg, Int.reduceToNat, Int.reduceAdd, Int.reduceSub, Int.reduceMul, Int.reduceDiv, Int.reduceMod, Int.reduceLT, Int.reduceLE, Nat.reduceLeDiff, Nat.reduceBEq, Nat.reduceLT, code_fault_Code, code_fault_Code_k0]))
    exact ret_x (by repeat' (first | exact St.le.refl _ | assumption | refine le_pushv ?_ | refine le_put ?_ (by first | omega | (simp only [len_pushv, len_put]; omega)) | refine le_trunc ?_ (by first | omega | (simp only [len_pushv, len_put]; omega)))) rfl ⟨rfl, rfl⟩
theorem fault_Place {W0 : World} {S : St} {o : Option (Nat × Int)} (hW : IsErrType W0) (h0 : 0 < W0.heap.size) : Gives Pr W0 Fn.fault_Place [errAV o] S (.int .i64 (errPlace o)) := by
  cases o with
  | none =>
    refine in_fault_Place (by simp) ?_
    (repeat' (first | (with_reducible refine @Br_pos _ _ _ _ _ _ (by first | assumption | omega) ?_) | (with_reducible refine @Br_neg _ _ _ _ _ _ (by first | assumption | omega) ?_) | (with_reducible refine @Br_dec _ _ _ _ _ _ (fun _ => ?_) (fun _ => ?_)) | (with_reducible refine Br_bt (by assumption) ?_) | (with_reducible refine Br_bf (by assumption) ?_) | (with_reducible refine Br_b (fun _ => ?_) (fun _ => ?_)) | (with_reducible refine IfK_pos (by first | assumption | omega) ?_) | (with_reducible refine IfK_neg (by first | assumption | omega) ?_) | (with_reducible refine IfK_bf (by assumption) ?_) | (with_reducible refine IfK_dec (fun _ => ?_) (fun _ => ?_)) | (with_reducible refine And.intro ?_ ?_) | (refine (As_nil).go ?_) | simp (maxSteps := 10000000) (disch := ((try simp only [len_pushv, len_put, len_putB, List.length_take, List.length_drop, List.length_append, List.length_map, List.length_replicate, List.length_set, List.length_cons, List.length_nil, true_and, and_true]); first | done | omega | (repeat' (first | exact St.le.refl _ | assumption | refine le_pushv ?_ | refine le_put ?_ (by first | omega | (simp only [len_pushv, len_put]; omega)))))) only [W, Gives, pinsAfter, ↓reduceIte, Nat.reduceEqDiff, Nat.reduceAdd, Nat.reduceMul, Nat.reduceSub, ne_eq, Int.reduceEq, Int.reduceNeg, Int.reduceToNat, Int.reduceAdd, Int.reduceSub, Int.reduceMul, Int.reduceDiv, Int.reduceMod, Int.reduceLT, Int.reduceLE, Nat.reduceLeDiff, Nat.reduceBEq, Nat.reduceLT, code_fault_Place, code_fault_Place_k0]))
    exact ret_x (by repeat' (first | exact St.le.refl _ | assumption | refine le_pushv ?_ | refine le_put ?_ (by first | omega | (simp only [len_pushv, len_put]; omega)) | refine le_trunc ?_ (by first | omega | (simp only [len_pushv, len_put]; omega)))) rfl ⟨rfl, rfl⟩
  | some p =>
    obtain ⟨e, pl⟩ := p
    refine in_fault_Place (by simp) ?_
    (repeat' (first | (with_reducible refine @Br_pos _ _ _ _ _ _ (by first | assumption | omega) ?_) | (with_reducible refine @Br_neg _ _ _ _ _ _ (by first | assumption | omega) ?_) | (with_reducible refine @Br_dec _ _ _ _ _ _ (fun _ => ?_) (fun _ => ?_)) | (with_reducible refine Br_bt (by assumption) ?_) | (with_reducible refine Br_bf (by assumption) ?_) | (with_reducible refine Br_b (fun _ => ?_) (fun _ => ?_)) | (with_reducible refine IfK_pos (by first | assumption | omega) ?_) | (with_reducible refine IfK_neg (by first | assumption | omega) ?_) | (with_reducible refine IfK_bf (by assumption) ?_) | (with_reducible refine IfK_dec (fun _ => ?_) (fun _ => ?_)) | (with_reducible refine And.intro ?_ ?_) | (refine (As_place hW h0 (get_pushv_at rfl)).mono ?_; rintro _ _ ⟨rfl, rfl⟩) | simp (maxSteps := 10000000) (disch := ((try simp only [len_pushv, len_put, len_putB, List.length_take, List.length_drop, List.length_append, List.length_map, List.length_replicate, List.length_set, List.length_cons, List.length_nil, true_and, and_true]); first | done | omega | (repeat' (first | exact St.le.refl _ | assumption | refine le_pushv ?_ | refine le_put ?_ (by first | omega | (simp only [len_pushv, len_put]; omega)))))) only [W, Gives, pinsAfter, ↓reduceIte, Nat.reduceEqDiff, Nat.reduceAdd, Nat.reduceMul, Nat.reduceSub, ne_eq, Int.reduceEq, Int.reduceNeg, Int.reduceToNat, Int.reduceAdd, Int.reduceSub, Int.reduceMul, Int.reduceDiv, Int.reduceMod, Int.reduceLT, Int.reduceLE, Nat.reduceLeDiff, Nat.reduceBEq, Nat.reduceLT, code_fault_Place, code_fault_Place_k0]))
    exact ret_x (by repeat' (first | exact St.le.refl _ | assumption | refine le_pushv ?_ | refine le_put ?_ (by first | omega | (simp only [len_pushv, len_put]; omega)) | refine le_trunc ?_ (by first | omega | (simp only [len_pushv, len_put]; omega)))) rfl ⟨rfl, rfl⟩
end Go.Proofs.YtnfiihdebonadaaGreatDoor.Abs
namespace Go.Proofs.YtnfiihdebonadaaGreatDoor.Abs
open Go.RowKit

theorem Holds.faddrF {S : St} {k n : Nat} {x : AV} {cells : List AV} (h : Holds S k x n cells) (j o o' : Nat) : faddrA S o' (eltF k x j o) = some (eltF k x j (o + o')) := by
  obtain ⟨h1, h2⟩ := h
  cases x <;> simp only [AV.isSl] at h1 <;> first | cases h1 | skip
  case list fl m c => simp only [eltF, faddr_eptr, Nat.add_assoc]
  case ref id ver k' off len =>
    simp only [rd] at h2; split at h2
    · rename_i hc
      simp only [faddr_ptr, verK, hc.1, if_true, eltF, Nat.add_assoc]
    · cases h2
theorem Evs.length {S : St} {own : Nat → Prop} {es : List Ev} {cs : List AV} (h : Evs S own es cs) : cs.length = es.length * 14 := by
  induction h with
  | nil => rfl
  | snoc e d h hd hu hn ih => rw [List.length_append, ih, evCells_length, List.length_append]; simp; omega
/-- An event among the events. -/
theorem Evs.get {S : St} {own : Nat → Prop} {es : List Ev} {cs : List AV} (h : Evs S own es cs) {i : Nat} {e : Ev} (he : es[i]? = some e) : ∃ d, Bytes S d e.data ∧ d.under S.len = true ∧ (∀ i, d.names i → ¬ own i) ∧ ∀ j, j < 14 → cs[i * 14 + j]? = (evCells e d)[j]? := by
  induction h with
  | nil => simp at he
  | snoc e' d h hd hu hn ih =>
    rename_i es cs
    have hl := h.length
    rcases Nat.lt_or_ge i es.length with hi | hi
    · rw [List.getElem?_append_left hi] at he
      obtain ⟨d', h1, h2, h3, h4⟩ := ih he
      refine ⟨d', h1, h2, h3, fun j hj => ?_⟩
      rw [← h4 j hj, List.getElem?_append_left (by omega)]
    · rw [List.getElem?_append_right hi] at he
      have : i - es.length = 0 := by
        rcases Nat.eq_zero_or_pos (i - es.length) with h | h
        · exact h
        · rw [List.getElem?_eq_none (by simp; omega)] at he; cases he
      have hi' : i = es.length := by omega
      rw [this] at he
      cases he
      refine ⟨d, hd, hu, hn, fun j hj => ?_⟩
      rw [List.getElem?_append_right (by omega)]
      congr 1
      omega

def rdH : Hdr := ⟨0, [97], [], [], [], [], 48, 420, 0, 0, 2, 0⟩
def rdB : List UInt8 := (encodeH rdH).2 ++ [104, 105] ++ List.replicate 1534 0
def rdE : Ent := (feedM .new rdB).out.head!.ent
theorem rd_code : (encodeH rdH).1 = 0 := by decide +kernel
theorem rd_len : (encodeH rdH).2.length = 512 := by decide +kernel
theorem rd_path : rdE.path = [97] := by decide +kernel
theorem rd_out : (feedM .new rdB).out = [⟨1, rdE, [], none, 512⟩, ⟨2, .zero, [104, 105], none, 514⟩, ⟨3, .zero, [], none, 514⟩, ⟨4, .zero, [], none, 2048⟩] := by decide +kernel
theorem rd_end : endErr { feedM .new rdB with out := [] } = none := by decide +kernel
theorem rdH_ok : rdH.ok := by constructor <;> simp [rdH, in64]
theorem PInv_new : PInv .new := by
  refine ⟨⟨⟨⟨?_, ?_, ?_, ?_, ?_⟩, by decide⟩, by decide, fun h => by simp [PSt.new] at h, fun h => by simp [PSt.new] at h, fun h => by simp [PSt.new] at h⟩, by decide⟩
  all_goals simp [PSt.new, aheadOk]
theorem law12_reads {W0 : World} (G : Glob W0) {S : St} : Gives Pr W0 Fn.law12_reads [] S (.bool true) := by
  refine in_law12_reads (by simp) ?_
  (repeat' (first | (with_reducible refine @Br_pos _ _ _ _ _ _ (by first | assumption | omega) ?_) | (with_reducible refine @Br_neg _ _ _ _ _ _ (by first | assumption | omega) ?_) | (with_reducible refine @Br_dec _ _ _ _ _ _ (fun _ => ?_) (fun _ => ?_)) | (with_reducible refine Br_bt (by assumption) ?_) | (with_reducible refine Br_bf (by assumption) ?_) | (with_reducible refine Br_b (fun _ => ?_) (fun _ => ?_)) | (with_reducible refine IfK_pos (by first | assumption | omega) ?_) | (with_reducible refine IfK_neg (by first | assumption | omega) ?_) | (with_reducible refine IfK_bf (by assumption) ?_) | (with_reducible refine IfK_dec (fun _ => ?_) (fun _ => ?_)) | (with_reducible refine And.intro ?_ ?_) | simp (maxSteps := 10000000) (disch := ((try simp only [len_pushv, len_put, len_putB, List.length_take, List.length_drop, List.length_append, List.length_map, List.length_replicate, List.length_set, List.length_cons, List.length_nil, true_and, and_true]); first | done | omega | (repeat' (first | exact St.le.refl _ | assumption | refine le_pushv ?_ | refine le_put ?_ (by first | omega | (simp only [len_pushv, len_put]; omega)))))) only [W, Gives, pinsAfter, ↓reduceIte, Nat.reduceEqDiff, Nat.reduceAdd, Nat.reduceMul, Nat.reduceSub, ne_eq, Int.reduceEq, Int.reduceNeg, Int.reduceToNat, Int.reduceAdd, Int.reduceSub, Int.reduceMul, Int.reduceDiv, Int.reduceMod, Int.reduceLT, Int.reduceLE, Nat.reduceLeDiff, Nat.reduceBEq, Nat.reduceLT, code_law12_reads]))
  refine head_Encode G (h := rdH) rdH_ok ?_ ?_
  · intro b bid S1 he hl hn
    have hg := hn.get
    have hlt := hn.lt
    have h12 := hn.le
    (repeat' (first | (with_reducible refine @Br_pos _ _ _ _ _ _ (by first | assumption | omega) ?_) | (with_reducible refine @Br_neg _ _ _ _ _ _ (by first | assumption | omega) ?_) | (with_reducible refine @Br_dec _ _ _ _ _ _ (fun _ => ?_) (fun _ => ?_)) | (with_reducible refine Br_bt (by assumption) ?_) | (with_reducible refine Br_bf (by assumption) ?_) | (with_reducible refine Br_b (fun _ => ?_) (fun _ => ?_)) | (with_reducible refine IfK_pos (by first | assumption | omega) ?_) | (with_reducible refine IfK_neg (by first | assumption | omega) ?_) | (with_reducible refine IfK_bf (by assumption) ?_) | (with_reducible refine IfK_dec (fun _ => ?_) (fun _ => ?_)) | (with_reducible refine And.intro ?_ ?_) | (refine push_New fun S2 hm hle ho => ?_) | simp (maxSteps := 10000000) (disch := ((try simp only [len_pushv, len_put, len_putB, List.length_take, List.length_drop, List.length_append, List.length_map, List.length_replicate, List.length_set, List.length_cons, List.length_nil, true_and, and_true]); first | done | omega | (repeat' (first | exact St.le.refl _ | assumption | refine le_pushv ?_ | refine le_put ?_ (by first | omega | (simp only [len_pushv, len_put]; omega)))))) only [W, Gives, pinsAfter, ↓reduceIte, Nat.reduceEqDiff, Nat.reduceAdd, Nat.reduceMul, Nat.reduceSub, ne_eq, Int.reduceEq, Int.reduceNeg, Int.reduceToNat, Int.reduceAdd, Int.reduceSub, Int.reduceMul, Int.reduceDiv, Int.reduceMod, Int.reduceLT, Int.reduceLE, Nat.reduceLeDiff, Nat.reduceBEq, Nat.reduceLT, code_law12_reads, code_law12_reads_k1, hg]))
    generalize hR : S1.put bid (2, Blk.row (List.map u8 b ++ [u8 104, u8 105] ++ List.map u8 (List.replicate 1534 0))) = S1' at *
    have hl1 : S1'.len = S1.len := by rw [← hR, len_put]
    have hgx : S2.get bid = (2, .row (rdB.map u8)) := by
      rw [hle.2 bid (by omega), ← hR, get_put_at hlt, rdB, he]
      rw [List.map_append, List.map_append]; rfl
    have hxl : rdB.length = 2048 := by
      rw [rdB, List.length_append, List.length_append, rd_len, List.length_replicate]; rfl
    have hx : Bytes S2 (.ref bid 2 1 0 2048) rdB := bytes_ref hgx hxl
    have hle2 := hle.1
    obtain ⟨xb, xt, xo, g, l, hgp, hs⟩ := id hm
    rw [hl1] at hgp ho hm
    (repeat' (first | (with_reducible refine @Br_pos _ _ _ _ _ _ (by first | assumption | omega) ?_) | (with_reducible refine @Br_neg _ _ _ _ _ _ (by first | assumption | omega) ?_) | (with_reducible refine @Br_dec _ _ _ _ _ _ (fun _ => ?_) (fun _ => ?_)) | (with_reducible refine Br_bt (by assumption) ?_) | (with_reducible refine Br_bf (by assumption) ?_) | (with_reducible refine Br_b (fun _ => ?_) (fun _ => ?_)) | (with_reducible refine IfK_pos (by first | assumption | omega) ?_) | (with_reducible refine IfK_neg (by first | assumption | omega) ?_) | (with_reducible refine IfK_bf (by assumption) ?_) | (with_reducible refine IfK_dec (fun _ => ?_) (fun _ => ?_)) | (with_reducible refine And.intro ?_ ?_) | (refine push_Feed G hm PInv_new hx (by simp [AV.under]; omega) (fun i hi ho' => ?_) (by simp [PSt.new, hxl]) (by simp [hxl]) fun r S3 oc hm3 hf3 hr3 hev3 hnr => ?_) | simp (maxSteps := 10000000) (disch := ((try simp only [len_pushv, len_put, len_putB, List.length_take, List.length_drop, List.length_append, List.length_map, List.length_replicate, List.length_set, List.length_cons, List.length_nil, true_and, and_true]); first | done | omega | (repeat' (first | exact St.le.refl _ | assumption | refine le_pushv ?_ | refine le_put ?_ (by first | omega | (simp only [len_pushv, len_put]; omega)))))) only [W, Gives, pinsAfter, ↓reduceIte, Nat.reduceEqDiff, Nat.reduceAdd, Nat.reduceMul, Nat.reduceSub, ne_eq, Int.reduceEq, Int.reduceNeg, Int.reduceToNat, Int.reduceAdd, Int.reduceSub, Int.reduceMul, Int.reduceDiv, Int.reduceMod, Int.reduceLT, Int.reduceLE, Nat.reduceLeDiff, Nat.reduceBEq, Nat.reduceLT, code_law12_reads, code_law12_reads_k0, code_law12_reads_k1, hgp]))
    · have := ho i ho'
      simp only [AV.names] at hi; omega
    rw [rd_out] at hr3 hev3
    have hh := hr3.holds
    obtain ⟨d0, b0, u0, n0, c0⟩ := hev3.get (i := 0) rfl
    obtain ⟨d1, b1, u1, n1, c1⟩ := hev3.get (i := 1) rfl
    obtain ⟨d3, b3, u3, n3, c3⟩ := hev3.get (i := 3) rfl
    have oc0 : oc[0 * 14 + 0]? = some (.int .i64 1) := c0 0 (by omega)
    have oc1 : oc[0 * 14 + (1 + 0)]? = some (.str [97]) := by rw [c0 1 (by omega), ← rd_path]; rfl
    have oc2 : oc[1 * 14 + 11]? = some d1 := c1 11 (by omega)
    have oc3 : oc[3 * 14 + 0]? = some (.int .i64 4) := c3 0 (by omega)
    have ocl : oc.length = 56 := hev3.length
    have xl := hh.len
    have xi := @Holds.iaddr _ _ _ _ _ hh (by omega) .i64
    have xf := hh.faddr
    have xff := hh.faddrF
    have xe := @Holds.loadF1 _ _ _ _ _ hh
    have xc := b1.conv
    have hend : Gives Pr W0 Fn.push_Parser_End [.ptr S1.len 0 0] S3 (errAV none) := rd_end ▸ push_End hm3
    have hle3 : S.le S3 := by
      refine ⟨by have := hf3.len; have := h12.1; omega, fun i hi => ?_⟩
      have := h12.1
      have := hn.ge
      rw [hf3.old i (by omega) (fun h => by have := ho i h; omega), hle.2 i (by omega), ← hR, get_put_no (by omega), h12.2 i hi]
    (repeat' (first | (with_reducible refine @Br_pos _ _ _ _ _ _ (by first | assumption | omega) ?_) | (with_reducible refine @Br_neg _ _ _ _ _ _ (by first | assumption | omega) ?_) | (with_reducible refine @Br_dec _ _ _ _ _ _ (fun _ => ?_) (fun _ => ?_)) | (with_reducible refine Br_bt (by assumption) ?_) | (with_reducible refine Br_bf (by assumption) ?_) | (with_reducible refine Br_b (fun _ => ?_) (fun _ => ?_)) | (with_reducible refine IfK_pos (by first | assumption | omega) ?_) | (with_reducible refine IfK_neg (by first | assumption | omega) ?_) | (with_reducible refine IfK_bf (by assumption) ?_) | (with_reducible refine IfK_dec (fun _ => ?_) (fun _ => ?_)) | (with_reducible refine And.intro ?_ ?_) | (refine hend.go ?_) | simp (maxSteps := 10000000) (disch := ((try simp only [len_pushv, len_put, len_putB, List.length_take, List.length_drop, List.length_append, List.length_map, List.length_replicate, List.length_set, List.length_cons, List.length_nil, true_and, and_true]); first | done | omega | (repeat' (first | exact St.le.refl _ | assumption | refine le_pushv ?_ | refine le_put ?_ (by first | omega | (simp only [len_pushv, len_put]; omega)))))) only [W, Gives, pinsAfter, ↓reduceIte, Nat.reduceEqDiff, Nat.reduceAdd, Nat.reduceMul, Nat.reduceSub, ne_eq, Int.reduceEq, Int.reduceNeg, Int.reduceToNat, Int.reduceAdd, Int.reduceSub, Int.reduceMul, Int.reduceDiv, Int.reduceMod, Int.reduceLT, Int.reduceLE, Nat.reduceLeDiff, Nat.reduceBEq, Nat.reduceLT, code_law12_reads, code_law12_reads_k0, code_law12_reads_k1, xl, xi, xf, xff, xe, oc0, oc1, oc2, oc3, xc, ocl, errAV_nil, Option.isNone_none]))
    exact ret_x hle3 rfl ⟨rfl, rfl⟩
  · intro c hc he
    have := rd_code
    rw [he] at this
    exact absurd this hc
end Go.Proofs.YtnfiihdebonadaaGreatDoor.Abs
namespace Go.Proofs.YtnfiihdebonadaaGreatDoor.Abs

/-! What is read back of a header that was written. -/
theorem idx0 (s r : List UInt8) (h : ∀ b ∈ s, b ≠ 0) : Lib.index (s ++ 0 :: r) [0] = s.length := by
  induction s with
  | nil => simp [Lib.index]
  | cons b s ih =>
    have hb : b ≠ 0 := h b (by simp)
    have e := ih fun c hc => h c (by simp [hc])
    have p : List.isPrefixOf [0] (b :: (s ++ 0 :: r)) = false := by simp [List.isPrefixOf, Ne.symm hb]
    have q : ((s.length : Int) == -1) = false := by rw [beq_eq_false_iff_ne]; omega
    rw [List.cons_append, Lib.index, p, e, q]
    simp
theorem idx0_no (s : List UInt8) (h : ∀ b ∈ s, b ≠ 0) : Lib.index s [0] = -1 := by
  induction s with
  | nil => simp [Lib.index]
  | cons b s ih =>
    have hb : b ≠ 0 := h b (by simp)
    have e := ih fun c hc => h c (by simp [hc])
    have p : List.isPrefixOf [0] (b :: s) = false := by simp [List.isPrefixOf, Ne.symm hb]
    rw [Lib.index, p, e]
    simp
theorem noZero_of {s : List UInt8} (h : Lib.contains s [0] = false) : ∀ b ∈ s, b ≠ 0 := by
  induction s with
  | nil => simp
  | cons b s ih =>
    by_cases hb : b = 0
    · subst hb
      exfalso
      have : Lib.index (0 :: s) [0] = 0 := idx0 [] s (by simp)
      simp [Lib.contains, this] at h
    · intro c hc
      rcases List.mem_cons.1 hc with rfl | hc
      · exact hb
      · refine ih ?_ c hc
        have p : List.isPrefixOf [0] (b :: s) = false := by simp [List.isPrefixOf, Ne.symm hb]
        simp only [Lib.contains, decide_eq_false_iff_not] at h ⊢
        rw [Lib.index, p] at h
        intro h2
        apply h
        have q : (Lib.index s [0] == -1) = false := by rw [beq_eq_false_iff_ne]; omega
        rw [q]
        simp; omega
theorem text_zeros {s : List UInt8} (h : ∀ b ∈ s, b ≠ 0) (k : Nat) : textOf (s ++ List.replicate k 0) = s := by
  cases k with
  | zero => simp [textOf, Lib.cut, idx0_no s h]
  | succ k =>
    rw [List.replicate_succ, textOf, Lib.cut, idx0 s _ h]
    simp

theorem fld_put_no {l s : List UInt8} {o a b : Nat} (hl : o + s.length ≤ l.length) (h : b ≤ o ∨ o + s.length ≤ a) : fld (putB l o s) a b = fld l a b := by
  have e1 : (l.take o).length = o := by simp; omega
  unfold fld putB
  rcases h with h | h
  · rw [List.append_assoc]
    rcases Nat.lt_or_ge a b with hab | hab
    · rw [List.drop_append_of_le_length (by omega), List.take_append_of_le_length (by simp; omega), List.drop_take, List.take_take]
      congr 1; omega
    · have : b - a = 0 := by omega
      rw [this, List.take_zero, List.take_zero]
  · have e2 : (l.take o ++ s).length = o + s.length := by rw [List.length_append, e1]
    rw [List.drop_append, List.drop_eq_nil_of_le (by omega), List.nil_append, e2, List.drop_drop]
    congr 2; omega
theorem fld_put_at {l s : List UInt8} {o b : Nat} (hl : o + s.length ≤ l.length) (h : o + s.length ≤ b) : fld (putB l o s) o b = s ++ fld l (o + s.length) b := by
  have e1 : (l.take o).length = o := by simp; omega
  unfold fld putB
  rw [List.append_assoc, List.drop_append, List.drop_eq_nil_of_le (by omega), List.nil_append, e1, Nat.sub_self, List.drop_zero, List.take_append, List.take_of_length_le (by omega)]
  congr 2; omega
theorem fld_set_no {l : List UInt8} {i a b : Nat} {x : UInt8} (h : i < a ∨ b ≤ i) : fld (l.set i x) a b = fld l a b := by
  unfold fld
  apply List.ext_getElem?
  intro j
  simp only [List.getElem?_take, List.getElem?_drop, List.getElem?_set]
  split
  · rw [if_neg (by omega)]
  · rfl
theorem fld_zeros (n a b : Nat) (h : b ≤ n) : fld (List.replicate n 0) a b = List.replicate (b - a) 0 := by
  unfold fld
  rw [List.drop_replicate, List.take_replicate]
  congr 1; omega
theorem put_len {l s : List UInt8} {o : Nat} (h : o + s.length ≤ l.length) : (putB l o s).length = l.length := by rw [len_putB]; omega
theorem getD_put_no {l s : List UInt8} {o i : Nat} (hl : o + s.length ≤ l.length) (h : i < o ∨ o + s.length ≤ i) : (putB l o s).getD i 0 = l.getD i 0 := by
  have e1 : (l.take o).length = o := by simp; omega
  unfold putB
  simp only [List.getD_eq_getElem?_getD]
  rcases h with h | h
  · rw [List.append_assoc, List.getElem?_append_left (by omega), List.getElem?_take, if_pos h]
  · rw [List.getElem?_append_right (by rw [List.length_append, e1]; omega), List.length_append, e1, List.getElem?_drop]
    congr 2; omega

theorem sumFrom_append (g : Nat → Int) : ∀ (l r : List UInt8) (i : Nat), sumFrom g i (l ++ r) = sumFrom g i l + sumFrom g (i + l.length) r
  | [], r, i => by simp [sumFrom]
  | b :: l, r, i => by
    rw [List.cons_append, sumFrom, sumFrom, sumFrom_append g l r (i + 1), List.length_cons]
    have : i + 1 + l.length = i + (l.length + 1) := by omega
    rw [this]; omega
theorem sumFrom_hole (g : Nat → Int) : ∀ (l : List UInt8) (i : Nat), 148 ≤ i → i + l.length ≤ 156 → sumFrom g i l = l.length * g 32
  | [], i, _, _ => by simp [sumFrom]
  | b :: l, i, h1, h2 => by
    simp only [List.length_cons] at h2
    rw [sumFrom, if_pos (by omega), sumFrom_hole g l (i + 1) (by omega) (by omega), List.length_cons]
    have : ((l.length + 1 : Nat) : Int) * g 32 = l.length * g 32 + g 32 := by
      rw [Int.natCast_add, Int.add_mul]; simp
    rw [this]; omega
theorem sum_put {l s : List UInt8} (hl : 156 ≤ l.length) (hs : s.length = 8) : plainSum (putB l 148 s) = plainSum l := by
  have e : l = l.take 148 ++ (fld l 148 156) ++ l.drop 156 := by
    unfold fld
    have : (l.drop 148).take 8 ++ l.drop 156 = l.drop 148 := by
      have := List.take_append_drop 8 (l.drop 148)
      rw [List.drop_drop] at this
      exact this
    rw [List.append_assoc, this, List.take_append_drop]
  have e1 : (l.take 148).length = 148 := by simp; omega
  have e2 : (fld l 148 156).length = 8 := by unfold fld; simp; omega
  unfold plainSum
  conv => rhs; rw [e]
  unfold putB
  rw [hs]
  rw [sumFrom_append, sumFrom_append, sumFrom_append, sumFrom_append, List.length_append, List.length_append, e1, hs, e2, sumFrom_hole _ s _ (by omega) (by omega), sumFrom_hole _ (fld l 148 156) _ (by omega) (by omega), hs, e2]

theorem octRun_dig : ∀ (k n m : Nat) (r : List UInt8), m * 8 ^ k + n % 8 ^ k < 1152921504606846976 → octRun m (octDig n k ++ r) = octRun (m * 8 ^ k + n % 8 ^ k) r
  | 0, n, m, r, _ => by simp [octDig, Nat.mod_one]
  | k + 1, n, m, r, h => by
    have e : n % 8 ^ (k + 1) = n % 8 ^ k + 8 ^ k * (n / 8 ^ k % 8) := Nat.mod_pow_succ
    have hd : n / 8 ^ k % 8 < 8 := Nat.mod_lt _ (by omega)
    generalize hdd : n / 8 ^ k % 8 = d at *
    have hp : 0 < 8 ^ k := Nat.pow_pos (by omega)
    have em : m * 8 ^ (k + 1) = m * 8 ^ k * 8 := by rw [Nat.pow_succ, Nat.mul_assoc]
    have e2 : (8 * m + d) * 8 ^ k = m * 8 ^ k * 8 + 8 ^ k * d := by
      rw [Nat.add_mul, Nat.mul_comm d, Nat.mul_assoc, Nat.mul_comm 8]
    have hm : m ≤ m * 8 ^ k := Nat.le_mul_of_pos_right _ hp
    have ht : (UInt8.ofNat (48 + d)).toNat = 48 + d := by
      show (48 + d) % 256 = 48 + d
      omega
    rw [octDig_front, List.cons_append, octRun, hdd, ht, if_pos (by omega), if_neg (by omega)]
    have e3 : 8 * m + (48 + d - 48) = 8 * m + d := by omega
    rw [e3, octRun_dig k n (8 * m + d) r (by omega)]
    congr 1; omega
theorem lt_octLen (n : Nat) : n < 8 ^ octLen n := by
  induction n using Nat.strongRecOn with
  | _ n ih =>
    by_cases h : n < 8
    · rw [octLen_lt h]; omega
    · rw [octLen_ge (by omega), Nat.add_comm, Nat.pow_succ]
      have := ih (n / 8) (by omega)
      omega
theorem octRun_blank (n : Nat) (r : List UInt8) (hr : r.all blankB = true) : octRun n r = some n := by
  cases r with
  | nil => rfl
  | cons b r =>
    have hb : b = 0 ∨ b = 32 := by
      have := hr
      simp only [List.all_cons, blankB, Bool.and_eq_true, Bool.or_eq_true, beq_iff_eq] at this
      exact this.1
    rw [octRun, if_neg (by rcases hb with rfl | rfl <;> decide), if_pos hr]
theorem octAll_dig {n k : Nat} {r : List UInt8} (h1 : octLen n < k + 2) (h2 : n < 1152921504606846976) (hr : r.all blankB = true) : octAll (octDig n (k + 1) ++ r) = some (n : Int) := by
  have hn : n < 8 ^ (k + 1) := Nat.lt_of_lt_of_le (lt_octLen n) (Nat.pow_le_pow_right (by omega) (by omega))
  have hr1 := octRun_dig (k + 1) n 0 r (by rw [Nat.mod_eq_of_lt hn]; omega)
  have hd : n / 8 ^ k % 8 < 8 := Nat.mod_lt _ (by omega)
  have ht : (UInt8.ofNat (48 + n / 8 ^ k % 8)).toNat = 48 + n / 8 ^ k % 8 := by
    show (48 + n / 8 ^ k % 8) % 256 = _
    omega
  have hne : (UInt8.ofNat (48 + n / 8 ^ k % 8) == 32) = false := by
    rw [beq_eq_false_iff_ne]
    intro h
    rw [h] at ht
    have : (32 : UInt8).toNat = 32 := rfl
    omega
  rw [octAll, if_neg, octParse]
  · have e : (octDig n (k + 1) ++ r).dropWhile (· == 32) = octDig n (k + 1) ++ r := by
      rw [octDig_front, List.cons_append, List.dropWhile_cons, hne]; rfl
    rw [e, hr1, octRun_blank _ _ hr, Nat.mod_eq_of_lt hn]
    simp
  · rw [octDig_front, List.cons_append, List.getD_cons_zero, ht]
    omega
theorem octAll_field {n w : Nat} (hw : 2 ≤ w) (h1 : octLen n < w) (h2 : n < 1152921504606846976) (r : List UInt8) (hr : r.all blankB = true) : octAll (octField n w ++ r) = some (n : Int) := by
  obtain ⟨k, rfl⟩ : ∃ k, w = k + 2 := ⟨w - 2, by omega⟩
  rw [octField, List.append_assoc]
  exact octAll_dig h1 h2 (by simpa [blankB] using hr)
end Go.Proofs.YtnfiihdebonadaaGreatDoor.Abs
namespace Go.Proofs.YtnfiihdebonadaaGreatDoor.Abs

theorem sealB_len {l : List UInt8} (h : l.length = 512) : (sealB l).length = 512 := by
  unfold sealB; rw [put_len (by rw [List.length_append, octField_length _ _ (by omega), h]; decide), h]
theorem plain_range {l : List UInt8} (h : l.length = 512) : 0 ≤ plainSum l ∧ plainSum l < 262144 := by
  have := plainSum_le l
  omega
theorem right_seal {l : List UInt8} (h : l.length = 512) : rightSum (sealB l) = true := by
  obtain ⟨h1, h2⟩ := plain_range h
  have hs : (octField (plainSum l).toNat 7 ++ [32]).length = 8 := by rw [List.length_append, octField_length _ _ (by omega)]; rfl
  have hf : ((sealB l).drop 148).take 8 = octField (plainSum l).toNat 7 ++ [32] := by
    have := fld_put_at (l := l) (s := octField (plainSum l).toNat 7 ++ [32]) (o := 148) (b := 156) (by omega) (by omega)
    rw [hs] at this
    have e : fld l (148 + 8) 156 = [] := by simp [fld]
    rw [e, List.append_nil] at this
    exact this
  have hp : plainSum (sealB l) = plainSum l := sum_put (by omega) hs
  rw [rightSum, sealB_len h, hf, octAll_field (by omega) (octLen_small (by omega)) (by omega) [32] rfl, hp]
  simp; omega

theorem octAll_fieldI {n : Int} {w : Nat} (hw : 2 ≤ w ∧ w ≤ 12) (h : fitsN n w) (k : Nat) : octAll (octField n.toNat w ++ List.replicate k 0) = some n := by
  have h1 := lt_octLen n.toNat
  have h2 : 8 ^ octLen n.toNat ≤ 8 ^ 12 := Nat.pow_le_pow_right (by omega) (by have := h.2; omega)
  rw [octAll_field hw.1 h.2 (by omega) _ (by simp [blankB])]
  have := h.1
  rw [Int.toNat_of_nonneg this]
theorem put512 {l s : List UInt8} {o : Nat} (hl : l.length = 512) (h : o + s.length ≤ 512) : (putB l o s).length = 512 := by rw [put_len (by omega), hl]

theorem fits_zero {s : List UInt8} {m : Int} (h : fitsB s m = true) : ∀ b ∈ s, b ≠ 0 := by
  simp only [fitsB, Bool.and_eq_true, Bool.not_eq_true'] at h
  exact noZero_of h.2
theorem putTexts_some {h : Hdr} {b c : List UInt8} (he : putTexts h.texts b = some c) :
    fitsB h.name 100 = true ∧ fitsB h.link 100 = true ∧ fitsB h.user 31 = true ∧ fitsB h.group 31 = true ∧ fitsB h.pref 155 = true ∧ c = putB (putB (putB (putB (putB b 0 h.name) 157 h.link) 265 h.user) 297 h.group) 345 h.pref := by
  simp only [Hdr.texts, putTexts] at he
  repeat' (split at he)
  all_goals first | (cases he; done) | skip
  rename_i h1 h2 h3 h4 h5
  cases he
  exact ⟨h1, h2, h3, h4, h5, rfl⟩
theorem putNums_some {h : Hdr} {b c : List UInt8} (he : putNums h.nums b = some c) :
    fitsN h.mode 8 ∧ fitsN h.uid 8 ∧ fitsN h.gid 8 ∧ fitsN h.size 12 ∧ fitsN h.mtime 12 := by
  simp only [Hdr.nums, putNums] at he
  repeat' (split at he)
  all_goals first | (cases he; done) | skip
  rename_i h1 h2 h3 h4 h5
  exact ⟨h1, h2, h3, h4, h5⟩

/-- What is read of a header that was written. -/
theorem decode_encode {h : Hdr} {b : List UInt8} (he : encodeH h = (0, b)) : b.length = 512 ∧ decodeH b = (0, { h with form := 1 }) ∧ blankH b = false := by
  rw [encodeH] at he
  split at he
  · cases he
  rename_i T hT
  split at he
  · cases he
  rename_i N hN
  obtain ⟨f1, f2, f3, f4, f5, rfl⟩ := putTexts_some hT
  obtain ⟨n1, n2, n3, n4, n5⟩ := putNums_some hN
  rw [putNums_all n1 n2 n3 n4 n5] at hN
  injection hN with hN
  injection he with _ he
  have l1 := fits_len f1
  have l2 := fits_len f2
  have l3 := fits_len f3
  have l4 := fits_len f4
  have l5 := fits_len f5
  have z1 := fits_zero f1
  have z2 := fits_zero f2
  have z3 := fits_zero f3
  have z4 := fits_zero f4
  have z5 := fits_zero f5
  have o1 := octField_length h.mode.toNat 8 (by omega)
  have o2 := octField_length h.uid.toNat 8 (by omega)
  have o3 := octField_length h.gid.toNat 8 (by omega)
  have o4 := octField_length h.size.toNat 12 (by omega)
  have o5 := octField_length h.mtime.toNat 12 (by omega)
  have us : ustar.length = 8 := rfl
  have a0 : (List.replicate 512 (0 : UInt8)).length = 512 := List.length_replicate
  have a1 := put512 (s := h.name) (o := 0) a0 (by omega)
  have a2 := put512 (s := h.link) (o := 157) a1 (by omega)
  have a3 := put512 (s := h.user) (o := 265) a2 (by omega)
  have a4 := put512 (s := h.group) (o := 297) a3 (by omega)
  have a5 := put512 (s := h.pref) (o := 345) a4 (by omega)
  have b1 := put512 (s := octField h.mode.toNat 8) (o := 100) a5 (by omega)
  have b2 := put512 (s := octField h.uid.toNat 8) (o := 108) b1 (by omega)
  have b3 := put512 (s := octField h.gid.toNat 8) (o := 116) b2 (by omega)
  have b4 := put512 (s := octField h.size.toNat 12) (o := 124) b3 (by omega)
  have b5 := put512 (s := octField h.mtime.toNat 12) (o := 136) b4 (by omega)
  have c1 : (N.set 156 h.typ).length = 512 := by rw [List.length_set, ← hN]; exact b5
  have c2 := put512 (s := ustar) (o := 257) c1 (by omega)
  have hr : rightSum b = true := by rw [← he]; exact right_seal c2
  have hlen : b.length = 512 := by rw [← he]; exact sealB_len c2
  have so : (octField (plainSum (putB (N.set 156 h.typ) 257 ustar)).toNat 7 ++ [32]).length = 8 := by rw [List.length_append, octField_length _ _ (by omega)]; rfl
  have hfld : ∀ x y, y ≤ 148 ∨ 156 ≤ x → fld b x y = fld (putB (N.set 156 h.typ) 257 ustar) x y := by
    intro x y hxy
    rw [← he, sealB]
    exact fld_put_no (by omega) (by omega)
  have hg : b.getD 156 0 = h.typ := by
    rw [← he, sealB, getD_put_no (by omega) (by omega), getD_put_no (by omega) (by omega)]
    simp only [List.getD_eq_getElem?_getD]
    rw [List.getElem?_set_self (by rw [List.length_set] at c1; omega)]
    rfl
  have hu : fld b 257 265 = ustar := by
    rw [hfld _ _ (by omega), fld_put_at (by omega) (by omega), us]
    simp [fld]
  subst hN
  have q1 : octAll (fld b 100 108) = some h.mode := by
    rw [hfld _ _ (by omega)]
    simp (disch := omega) only [fld_put_no, fld_put_at, fld_set_no, fld_zeros]
    exact octAll_fieldI (by omega) n1 _
  have q2 : octAll (fld b 108 116) = some h.uid := by
    rw [hfld _ _ (by omega)]
    simp (disch := omega) only [fld_put_no, fld_put_at, fld_set_no, fld_zeros]
    exact octAll_fieldI (by omega) n2 _
  have q3 : octAll (fld b 116 124) = some h.gid := by
    rw [hfld _ _ (by omega)]
    simp (disch := omega) only [fld_put_no, fld_put_at, fld_set_no, fld_zeros]
    exact octAll_fieldI (by omega) n3 _
  have q4 : octAll (fld b 124 136) = some h.size := by
    rw [hfld _ _ (by omega)]
    simp (disch := omega) only [fld_put_no, fld_put_at, fld_set_no, fld_zeros]
    exact octAll_fieldI (by omega) n4 _
  have q5 : octAll (fld b 136 148) = some h.mtime := by
    rw [hfld _ _ (by omega)]
    simp (disch := omega) only [fld_put_no, fld_put_at, fld_set_no, fld_zeros]
    exact octAll_fieldI (by omega) n5 _
  have t1 : textOf (fld b 0 100) = h.name := by
    rw [hfld _ _ (by omega)]
    simp (disch := omega) only [fld_put_no, fld_put_at, fld_set_no, fld_zeros]
    exact text_zeros z1 _
  have t2 : textOf (fld b 157 257) = h.link := by
    rw [hfld _ _ (by omega)]
    simp (disch := omega) only [fld_put_no, fld_put_at, fld_set_no, fld_zeros]
    exact text_zeros z2 _
  have t3 : textOf (fld b 265 297) = h.user := by
    rw [hfld _ _ (by omega)]
    simp (disch := omega) only [fld_put_no, fld_put_at, fld_set_no, fld_zeros]
    exact text_zeros z3 _
  have t4 : textOf (fld b 297 329) = h.group := by
    rw [hfld _ _ (by omega)]
    simp (disch := omega) only [fld_put_no, fld_put_at, fld_set_no, fld_zeros]
    exact text_zeros z4 _
  have t5 : textOf (fld b 345 500) = h.pref := by
    rw [hfld _ _ (by omega)]
    simp (disch := omega) only [fld_put_no, fld_put_at, fld_set_no, fld_zeros]
    exact text_zeros z5 _
  refine ⟨hlen, ?_, ?_⟩
  · rw [decodeH, if_neg (by omega), if_neg (by rw [hr]; decide), q1, q2, q3, q4, q5]
    simp only [withForm, hu, if_true, t1, t2, t3, t4, t5, hg]
  · rw [blankH]
    have : b.all (· == 0) = false := by
      rw [Bool.eq_false_iff]
      intro hall
      rw [List.all_eq_true] at hall
      have hm : (117 : UInt8) ∈ fld b 257 265 := by rw [hu]; simp [ustar]
      have := hall 117 (List.mem_of_mem_drop (List.mem_of_mem_take hm))
      exact absurd this (by decide)
    rw [this]; rfl
end Go.Proofs.YtnfiihdebonadaaGreatDoor.Abs
namespace Go.Proofs.YtnfiihdebonadaaGreatDoor.Abs

theorem octLen_pow : ∀ (k n : Nat), n < 8 ^ (k + 1) → octLen n ≤ k + 1
  | 0, n, h => by rw [octLen_lt (by omega)]; omega
  | k + 1, n, h => by
    by_cases h8 : n < 8
    · rw [octLen_lt h8]; omega
    · rw [octLen_ge (by omega)]
      have := octLen_pow k (n / 8) (by rw [Nat.pow_succ] at h; omega)
      omega
def pmH (typ : UInt8) (n : Int) : Hdr := ⟨0, [112], [], [], [], [], typ, 0, 0, 0, n, 0⟩
theorem pm_fits {typ : UInt8} {n : Int} (h : 0 ≤ n ∧ n < 8589934592) : (encodeH (pmH typ n)).1 = 0 := by
  have e1 : ∃ t, putTexts (pmH typ n).texts (List.replicate 512 0) = some t := by
    simp only [pmH, Hdr.texts, putTexts]
    rw [if_pos (by decide), if_pos (by decide), if_pos (by decide), if_pos (by decide), if_pos (by decide)]
    exact ⟨_, rfl⟩
  obtain ⟨t, ht⟩ := e1
  have z : fitsN 0 8 := ⟨by omega, by rw [octLen_lt (by decide)]; omega⟩
  have z' : fitsN 0 12 := ⟨by omega, by rw [octLen_lt (by decide)]; omega⟩
  have hn : fitsN n 12 := ⟨h.1, by have := octLen_pow 10 n.toNat (by omega); omega⟩
  rw [encodeH_ok ht (putNums_all (h := pmH typ n) z z z hn z' t)]

theorem feed_one {b : List UInt8} (hb : b.length = 512) : feedM .new b = { headM { PSt.new with block := b, at_ := 512, place := 0 } with block := [] } := by
  have hne : ¬ (b = [] ∨ PSt.new.state = 4) := by
    rintro (h | h)
    · rw [h] at hb; simp at hb
    · simp [PSt.new] at h
  have hs : stepN PSt.new b.length = 512 := by simp [stepN, PSt.new, hb]
  have e : ({ PSt.new with out := [] } : PSt) = PSt.new := rfl
  rw [feedM, hb, feedRun, e, if_neg hne, hs, feedRun_stop (.inl (by rw [List.drop_eq_nil_of_le (by omega)]))]
  rw [stepM, if_pos (by rfl), hs, stepH]
  have ht : b.take 512 = b := List.take_of_length_le (by omega)
  simp only [PSt.new, ht, List.nil_append, hb, if_true]
  rfl
theorem headC_big {m : PSt} {h : Hdr} (hm : 2 ≤ m.cls) (hs : 8192 < h.size) : headC m h = badM m 2 := by
  rw [headC, if_neg (by omega), if_neg (by omega), if_neg (by omega), if_pos hs]
theorem headC_nil {m : PSt} {h : Hdr} (hm : 2 ≤ m.cls) (hs : h.size = 0) : headC m h = toldM { m with state := 1, left := h.size, pad := padOf h.size, text := [] } := by
  rw [headC, if_neg (by omega), if_neg (by omega), if_neg (by omega), if_neg (by omega), if_pos hs]
theorem headC_small {m : PSt} {h : Hdr} (hm : 2 ≤ m.cls) (hs : 0 < h.size ∧ h.size ≤ 8192) : headC m h = { m with state := 1, left := h.size, pad := padOf h.size, text := [] } := by
  rw [headC, if_neg (by omega), if_neg (by omega), if_neg (by omega), if_neg (by omega), if_neg (by omega)]
theorem paxDecode_nil : paxDecode [] = (0, []) := by decide +kernel

theorem toldM_nil {m : PSt} (ht : m.text = []) (hc : 2 ≤ m.cls ∧ m.cls ≤ 5) (ha : m.ahead = ⟨[], [], [], []⟩) : ∃ a, toldM m = skipM { m with ahead := a } := by
  unfold toldM
  rw [ht, ha, paxDecode_nil]
  by_cases h4 : m.cls = 4
  · exact ⟨_, if_pos h4⟩
  rw [if_neg h4]
  by_cases h5 : m.cls = 5
  · exact ⟨_, if_pos h5⟩
  rw [if_neg h5, if_neg (fun h => h rfl)]
  by_cases h3 : m.cls = 3
  · rw [if_pos h3, if_neg (by simp)]; exact ⟨_, rfl⟩
  · rw [if_neg h3, if_neg (by simp)]; exact ⟨_, rfl⟩
section
variable {typ : UInt8} {n : Int} {b : List UInt8} (hb : encodeH (pmH typ n) = (0, b)) (ht : classOf typ.toNat = 2 ∨ classOf typ.toNat = 3 ∨ classOf typ.toNat = 4 ∨ classOf typ.toNat = 5)
include hb ht
theorem pm_head : feedM .new b = { headC { PSt.new with block := b, at_ := 512, place := 0, cls := classOf typ.toNat } { pmH typ n with form := 1 } with block := [] } := by
  obtain ⟨h1, h2, h3⟩ := decode_encode hb
  rw [feed_one h1, headM]
  simp only [h3, h2]
  rw [if_neg (by decide), if_neg (by decide), headT, if_neg (fun h => h rfl)]
  rfl
theorem pm_big (hn : 8192 < n) : (feedM .new b).out = [⟨5, .zero, [], some (2, 0), 512⟩] := by
  have hc : ({ PSt.new with block := b, at_ := 512, place := 0, cls := classOf typ.toNat } : PSt).cls = classOf typ.toNat := rfl
  rw [pm_head hb ht, headC_big (by omega) (h := { pmH typ n with form := 1 }) hn]
  rfl
theorem pm_small (hn : 0 ≤ n ∧ n ≤ 8192) : (feedM .new b).out = [] ∧ errCode (endErr { feedM .new b with out := [] }) = 5 ∧ (feedM .new b).at_ = 512 := by
  have hc : ({ PSt.new with block := b, at_ := 512, place := 0, cls := classOf typ.toNat } : PSt).cls = classOf typ.toNat := rfl
  rw [pm_head hb ht]
  by_cases h0 : n = 0
  · subst h0
    rw [headC_nil (by omega) (h := { pmH typ 0 with form := 1 }) rfl]
    obtain ⟨a, ha⟩ := toldM_nil (m := { ({ PSt.new with block := b, at_ := 512, place := 0, cls := classOf typ.toNat } : PSt) with state := 1, left := 0, pad := padOf 0, text := [] }) rfl (by show 2 ≤ classOf typ.toNat ∧ classOf typ.toNat ≤ 5; omega) rfl
    have hp : padOf 0 = 0 := rfl
    have e : (({ pmH typ 0 with form := 1 } : Hdr)).size = 0 := rfl
    rw [e, ha, hp]
    exact ⟨rfl, rfl, rfl⟩
  · rw [headC_small (by omega) (h := { pmH typ n with form := 1 }) ⟨by show 0 < n; omega, hn.2⟩]
    exact ⟨rfl, rfl, rfl⟩
end
end Go.Proofs.YtnfiihdebonadaaGreatDoor.Abs
