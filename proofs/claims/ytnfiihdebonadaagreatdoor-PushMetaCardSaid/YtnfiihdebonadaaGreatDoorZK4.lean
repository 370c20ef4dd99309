import Derived.Test.YtnfiihdebonadaaGreatDoorZK2
import Derived.Test.YtnfiihdebonadaaGreatDoorZShelf
import Derived.WalkSmall
set_option linter.unusedSimpArgs false
set_option linter.unusedVariables false
set_option linter.unusedSectionVars false
namespace Go.Proofs.YtnfiihdebonadaaGreatDoor.Abs
open Go.RowKit

theorem SRel.above {W0 : World} {ρ : Ghost} {S : St} {w w' : World} (h : SRel W0 ρ S w) (hb : Below w.heap.size w w') : SRel W0 ρ S w' ∧ Ext ρ S w ρ S w' := by
  have hE : Ext ρ S w ρ S w' := by
    refine ⟨hb.size, fun B c e f hc => ⟨c, f, ?_, rfl⟩, fun B hB _ => hb.block B hB, fun B hB hp => hp, Nat.le_refl _, fun _ => Nat.le_refl _, fun _ _ h _ => h⟩
    rw [hb.block B (by
      rcases Nat.lt_or_ge B w.heap.size with h' | h'
      · exact h'
      · rw [Array.getElem?_eq_none h'] at hc; cases hc)]
    exact hc
  refine ⟨⟨h.below.trans (hb.mono h.below.size), h.new, h.dom, fun i B b hr => Nat.lt_of_lt_of_le (h.lt i B b hr) hb.size, h.inj, fun i B b hr => ?_, h.wf⟩, hE⟩
  exact (h.blk i B b hr).ext hE (hb.block B (h.lt i B b hr))

/-- A call of the model's own kind, that leaves what was there as it was. -/
theorem CallsA.of_above {P : Program} {W0 : World} {f : FuncId} {args : List AV} {S : St} {Q : AV → St → Prop}
    (h : ∀ (ρ : Ghost) (w : World) (vs : Array Value), SRel W0 ρ S w → ARel ρ S w args vs → Calls P f vs w fun e w' => Below w.heap.size w w' ∧ ∃ r v, e = .returned v ∧ VRel ρ S w' r v ∧ Q r S) : CallsA P W0 f args S Q := by
  intro ρ w vs hs ha
  refine (h ρ w vs hs ha).mono ?_
  rintro e w' ⟨hb, r, v, rfl, hv, hq⟩
  obtain ⟨h1, h2⟩ := hs.above hb
  exact ⟨r, v, ρ, S, rfl, hv, h1, h2, hq⟩

theorem vrel_str {ρ : Ghost} {S : St} {w : World} {s : List UInt8} {v : Value} (h : VRel ρ S w (.str s) v) : v = .string ⟨s.toArray⟩ := by cases h; rfl
theorem vrel_int {ρ : Ghost} {S : St} {w : World} {k : IntKind} {n : Int} {v : Value} (h : VRel ρ S w (.int k n) v) : v = .int k n := by cases h; rfl
theorem arel_1 {ρ : Ghost} {S : St} {w : World} {a : AV} {vs : Array Value} (h : ARel ρ S w [a] vs) : ∃ x, vs = #[x] ∧ VRel ρ S w a x := by
  obtain ⟨h1, h2⟩ := h
  obtain ⟨l⟩ := vs
  match l, h1 with
  | [x], _ => exact ⟨x, rfl, h2 0 a rfl⟩
theorem arel_2 {ρ : Ghost} {S : St} {w : World} {a b : AV} {vs : Array Value} (h : ARel ρ S w [a, b] vs) : ∃ x y, vs = #[x, y] ∧ VRel ρ S w a x ∧ VRel ρ S w b y := by
  obtain ⟨h1, h2⟩ := h
  obtain ⟨l⟩ := vs
  match l, h1 with
  | [x, y], _ => exact ⟨x, y, rfl, h2 0 a rfl, h2 1 b rfl⟩
theorem arel_3 {ρ : Ghost} {S : St} {w : World} {a b c : AV} {vs : Array Value} (h : ARel ρ S w [a, b, c] vs) : ∃ x y z, vs = #[x, y, z] ∧ VRel ρ S w a x ∧ VRel ρ S w b y ∧ VRel ρ S w c z := by
  obtain ⟨h1, h2⟩ := h
  obtain ⟨l⟩ := vs
  match l, h1 with
  | [x, y, z], _ => exact ⟨x, y, z, rfl, h2 0 a rfl, h2 1 b rfl, h2 2 c rfl⟩
theorem vrel_tup2 {ρ : Ghost} {S : St} {w : World} {a b : AV} {x y : Value} (h1 : VRel ρ S w a x) (h2 : VRel ρ S w b y) : VRel ρ S w (.tup [a, b]) (.tuple #[x, y]) := by
  refine .tup _ _ rfl ?_
  intro j z hz
  match j with
  | 0 => cases hz; exact h1
  | 1 => cases hz; exact h2
  | j + 2 => simp at hz
theorem vrel_tup3 {ρ : Ghost} {S : St} {w : World} {a b c : AV} {x y z : Value} (h1 : VRel ρ S w a x) (h2 : VRel ρ S w b y) (h3 : VRel ρ S w c z) : VRel ρ S w (.tup [a, b, c]) (.tuple #[x, y, z]) := by
  refine .tup _ _ rfl ?_
  intro j u hu
  match j with
  | 0 => cases hu; exact h1
  | 1 => cases hu; exact h2
  | 2 => cases hu; exact h3
  | j + 3 => simp at hu

theorem below_grow' (w : World) (k : Nat) (os : Array Obj) : Below w.heap.size w (Go.Sort.grow (w.drewN k) os) := by
  refine ⟨rfl, rfl, rfl, ?_, fun j hj => ?_⟩
  · show w.heap.size ≤ (w.heap ++ os).size
    simp
  · show (w.heap ++ os)[j]? = w.heap[j]?
    rw [Array.getElem?_append_left hj]

theorem below_bytesWorld (w : World) (e : TypeId) (t : ByteArray) : Below w.heap.size w (Lib.bytesWorld w e t) := by
  refine ⟨rfl, rfl, rfl, ?_, fun j hj => ?_⟩
  · simp [Lib.bytesWorld, World.freeze]
  · have hne : w.heap.size ≠ j := by omega
    simp only [Lib.bytesWorld, World.freeze, World.alloc]
    rw [if_neg (by decide)]
    simp only [Array.getElem?_modify, if_neg hne]
    rw [Array.getElem?_push]
    have : ¬ j = w.drew.heap.size := by intro h; exact hne h.symm
    rw [if_neg this]; rfl

/-- What the walks ask of the world in which a law's call begins. -/
structure Glob (W0 : World) : Prop where
  big : 7 < W0.heap.size
  maxLen : ∃ m, W0.cell? ⟨Gl.internal_bytealg_MaxLen, 0, none⟩ = some (.int .i64 m)
  pow : Lib.TabIs Pr W0 "internal/strconv.uint64pow10" .u64 Lib.pow10Tab
  syn : ∃ tp p, W0.var? Pr "strconv.ErrSyntax" = some #[.iface tp p]
  rng : ∃ tp p, W0.var? Pr "strconv.ErrRange" = some #[.iface tp p]
  ca : ∀ (S : St) (k : List UInt8), k.length < 4294967281 → Gives Pr W0 Fn.strings_ContainsAny [.str k, .str [61, 0, 10]] S (.bool (k.any fun b => b == 61 || b == 0 || b == 10))

section
variable {W0 : World} {S : St} (G : Glob W0)
include G

theorem lib_Cut {s sep : List UInt8} (hs : s.length < 4294967281) : Gives Pr W0 Fn.strings_Cut [.str s, .str sep] S (.tup [.str (Lib.cut s sep).1, .str (Lib.cut s sep).2.1, .bool (Lib.cut s sep).2.2]) := by
  refine CallsA.of_above fun ρ w vs hS hA => ?_
  obtain ⟨x, y, rfl, hx, hy⟩ := arel_2 hA
  rw [vrel_str hx, vrel_str hy]
  obtain ⟨m, hm⟩ := G.maxLen
  have hm' : w.cell? ⟨Gl.internal_bytealg_MaxLen, 0, none⟩ = some (.int .i64 m) := by rw [hS.below.cell (Nat.lt_trans (by decide) G.big)]; exact hm
  refine (Tryz.strings_Cut ⟨s.toArray⟩ ⟨sep.toArray⟩ m w hs hm').mono ?_
  rintro e w' ⟨rfl, n, rfl⟩
  exact ⟨⟨rfl, rfl, rfl, Nat.le_refl _, fun _ _ => rfl⟩, _, _, rfl, vrel_tup3 (.str _) (.str _) (.bool _), rfl, rfl⟩
theorem lib_Contains {s sep : List UInt8} (hs : s.length < 4294967281) : Gives Pr W0 Fn.strings_Contains [.str s, .str sep] S (.bool (Lib.contains s sep)) := by
  refine CallsA.of_above fun ρ w vs hS hA => ?_
  obtain ⟨x, y, rfl, hx, hy⟩ := arel_2 hA
  rw [vrel_str hx, vrel_str hy]
  obtain ⟨m, hm⟩ := G.maxLen
  have hm' : w.cell? ⟨Gl.internal_bytealg_MaxLen, 0, none⟩ = some (.int .i64 m) := by rw [hS.below.cell (Nat.lt_trans (by decide) G.big)]; exact hm
  refine (Tryz.strings_Contains ⟨s.toArray⟩ ⟨sep.toArray⟩ m w hs hm').mono ?_
  rintro e w' ⟨rfl, rfl⟩
  exact ⟨.refl _ _, _, _, rfl, .bool _, rfl, rfl⟩
omit G in
theorem lib_HasSuffix {s p : List UInt8} (hs : s.length ≤ 9223372036854775807) : Gives Pr W0 Fn.strings_HasSuffix [.str s, .str p] S (.bool (Lib.hasSuffix s p)) := by
  refine CallsA.of_above fun ρ w vs hS hA => ?_
  obtain ⟨x, y, rfl, hx, hy⟩ := arel_2 hA
  rw [vrel_str hx, vrel_str hy]
  refine (Tryz.strings_HasSuffix ⟨s.toArray⟩ ⟨p.toArray⟩ w hs).mono ?_
  rintro e w' ⟨rfl, rfl⟩
  exact ⟨.refl _ _, _, _, rfl, .bool _, rfl, rfl⟩
theorem lib_Itoa {n : Int} (h : -9223372036854775808 ≤ n ∧ n ≤ 9223372036854775807) : Gives Pr W0 Fn.strconv_Itoa [.int .i64 n] S (.str (Lib.itoa n)) := by
  refine CallsA.of_above fun ρ w vs hS hA => ?_
  obtain ⟨x, rfl, hx⟩ := arel_1 hA
  rw [vrel_int hx]
  refine (Tryz.strconv_Itoa n h.1 h.2 w (var?_below hS.below (g := Gl.internal_strconv_uint64pow10) (by kernel_rfl) (Nat.lt_trans (by decide) G.big) G.pow)).mono ?_
  rintro e w' ⟨rfl, k, os, rfl⟩
  exact ⟨below_grow' _ _ _, _, _, rfl, .str _, rfl, rfl⟩
theorem lib_FormatInt {n : Int} (h : -9223372036854775808 ≤ n ∧ n ≤ 9223372036854775807) : Gives Pr W0 Fn.strconv_FormatInt [.int .i64 n, .int .i64 10] S (.str (Lib.itoa n)) := by
  refine CallsA.of_above fun ρ w vs hS hA => ?_
  obtain ⟨x, y, rfl, hx, hy⟩ := arel_2 hA
  rw [vrel_int hx, vrel_int hy]
  refine (Tryz.strconv_FormatInt_10 n h.1 h.2 w (var?_below hS.below (g := Gl.internal_strconv_uint64pow10) (by kernel_rfl) (Nat.lt_trans (by decide) G.big) G.pow)).mono ?_
  rintro e w' ⟨rfl, k, os, rfl⟩
  exact ⟨below_grow' _ _ _, _, _, rfl, .str _, rfl, rfl⟩
theorem lib_Atoi {s : List UInt8} (hs : s.length ≤ 281474976710656) {Q : AV → St → Prop} (hok : ∀ v, Lib.atoiAll s = .ok v → Q (.tup [.int .i64 v, .val .nilIface]) S) (hno : (∀ v, Lib.atoiAll s ≠ .ok v) → ∀ T n, Q (.tup [.int .i64 n, .iface T .undef]) S) :
    CallsA Pr W0 Fn.strconv_Atoi [.str s] S Q := by
  refine CallsA.of_above fun ρ w vs hS hA => ?_
  obtain ⟨x, rfl, hx⟩ := arel_1 hA
  rw [vrel_str hx]
  cases h : Lib.atoiAll s with
  | ok v =>
    refine (Tryz.strconv_Atoi_ok ⟨s.toArray⟩ (Nat.le_trans hs (by decide)) v h w).mono ?_
    rintro e w' ⟨rfl, hw⟩
    refine ⟨?_, _, _, rfl, vrel_tup2 (.int _ _) (.val _), hok v h⟩
    rcases hw with rfl | ⟨t, rfl⟩
    · exact .refl _ _
    · exact below_bytesWorld _ _ _
  | range =>
    obtain ⟨tp, p, hv⟩ := G.rng
    refine (Tryz.strconv_Atoi_range_var ⟨s.toArray⟩ hs h tp p w (var?_below hS.below (g := Gl.strconv_ErrRange) (by kernel_rfl) (Nat.lt_trans (by decide) G.big) hv)).mono ?_
    rintro e w' ⟨N, rfl, _, _, hb⟩
    exact ⟨hb, _, _, rfl, vrel_tup2 (.int _ _) (.iface _ _ _ (.undef _)), hno (by simp [h]) _ _⟩
  | _ =>
    obtain ⟨tp, p, hv⟩ := G.syn
    refine (Tryz.strconv_Atoi_syntax_var ⟨s.toArray⟩ hs h tp p w (var?_below hS.below (g := Gl.strconv_ErrSyntax) (by kernel_rfl) (Nat.lt_trans (by decide) G.big) hv)).mono ?_
    rintro e w' ⟨N, rfl, _, _, hb⟩
    exact ⟨hb, _, _, rfl, vrel_tup2 (.int _ _) (.iface _ _ _ (.undef _)), hno (by simp [h]) _ _⟩
theorem lib_ParseInt {s : List UInt8} (hs : s.length ≤ 281474976710656) {Q : AV → St → Prop} (hok : ∀ v, Lib.parseIntB 64 s = .ok v → Q (.tup [.int .i64 v, .val .nilIface]) S) (hno : (∀ v, Lib.parseIntB 64 s ≠ .ok v) → ∀ T n, Q (.tup [.int .i64 n, .iface T .undef]) S) :
    CallsA Pr W0 Fn.strconv_ParseInt [.str s, .int .i64 10, .int .i64 64] S Q := by
  refine CallsA.of_above fun ρ w vs hS hA => ?_
  obtain ⟨x, y, z, rfl, hx, hy, hz⟩ := arel_3 hA
  rw [vrel_str hx, vrel_int hy, vrel_int hz]
  cases h : Lib.parseIntB 64 s with
  | ok v =>
    refine (Tryz.strconv_ParseInt_10_at64_ok ⟨s.toArray⟩ (Nat.le_trans hs (by decide)) v h w).mono ?_
    rintro e w' ⟨rfl, hw⟩
    refine ⟨?_, _, _, rfl, vrel_tup2 (.int _ _) (.val _), hok v h⟩
    rcases hw with rfl | ⟨t, rfl⟩
    · exact .refl _ _
    · exact below_bytesWorld _ _ _
  | range =>
    obtain ⟨tp, p, hv⟩ := G.rng
    refine (Tryz.strconv_ParseInt_10_at64_range_var ⟨s.toArray⟩ hs h tp p w (var?_below hS.below (g := Gl.strconv_ErrRange) (by kernel_rfl) (Nat.lt_trans (by decide) G.big) hv)).mono ?_
    rintro e w' ⟨N, rfl, _, _, hb⟩
    exact ⟨hb, _, _, rfl, vrel_tup2 (.int _ _) (.iface _ _ _ (.undef _)), hno (by simp [h]) _ _⟩
  | _ =>
    obtain ⟨tp, p, hv⟩ := G.syn
    refine (Tryz.strconv_ParseInt_10_at64_syntax_var ⟨s.toArray⟩ hs h tp p w (var?_below hS.below (g := Gl.strconv_ErrSyntax) (by kernel_rfl) (Nat.lt_trans (by decide) G.big) hv)).mono ?_
    rintro e w' ⟨N, rfl, _, _, hb⟩
    exact ⟨hb, _, _, rfl, vrel_tup2 (.int _ _) (.iface _ _ _ (.undef _)), hno (by simp [h]) _ _⟩
end
end Go.Proofs.YtnfiihdebonadaaGreatDoor.Abs
namespace Go.Proofs.YtnfiihdebonadaaGreatDoor.Abs

def textOf (l : List UInt8) : List UInt8 := (Lib.cut l [0]).1
theorem head_text {W0 : World} (G : Glob W0) {S : St} {x : AV} {l : List UInt8} (hx : Bytes S x l) (hl : l.length < 4294967281) : Gives Pr W0 Fn.head_text [x] S (.str (textOf l)) := by
  refine in_head_text (by simp) ?_
  have xc := hx.conv
  (repeat' (first | (with_reducible refine @Br_pos _ _ _ _ _ _ (by first | assumption | omega) ?_) | (with_reducible refine @Br_neg _ _ _ _ _ _ (by first | assumption | omega) ?_) | (with_reducible refine @Br_dec _ _ _ _ _ _ (fun _ => ?_) (fun _ => ?_)) | (with_reducible refine Br_bt (by assumption) ?_) | (with_reducible refine Br_bf (by assumption) ?_) | (with_reducible refine Br_b (fun _ => ?_) (fun _ => ?_)) | (with_reducible refine IfK_pos (by first | assumption | omega) ?_) | (with_reducible refine IfK_neg (by first | assumption | omega) ?_) | (with_reducible refine IfK_bf (by assumption) ?_) | (with_reducible refine IfK_dec (fun _ => ?_) (fun _ => ?_)) | (with_reducible refine And.intro ?_ ?_) | simp (maxSteps := 10000000) (disch := ((try simp only [len_pushv, len_put, len_putB, List.length_take, List.length_drop, List.length_append, List.length_map, List.length_replicate, List.length_set, List.length_cons, List.length_nil, true_and, and_true]); first | done | omega | (repeat' (first | exact St.le.refl _ | assumption | refine le_pushv ?_ | refine le_put ?_ (by first | omega | (simp only [len_pushv, len_put]; omega)))))) only [W, Gives, pinsAfter, ↓reduceIte, Nat.reduceEqDiff, Nat.reduceAdd, Nat.reduceMul, Nat.reduceSub, ne_eq, Int.reduceEq, Int.reduceNeg, Int.reduceToNat, Int.reduceAdd, Int.reduceSub, Int.reduceMul, Int.reduceDiv, Int.reduceMod, Int.reduceLT, Int.reduceLE, Nat.reduceLeDiff, Nat.reduceBEq, Nat.reduceLT, code_head_text, xc]))
  refine (lib_Cut G hl).go ?_
  (repeat' (first | (with_reducible refine @Br_pos _ _ _ _ _ _ (by first | assumption | omega) ?_) | (with_reducible refine @Br_neg _ _ _ _ _ _ (by first | assumption | omega) ?_) | (with_reducible refine @Br_dec _ _ _ _ _ _ (fun _ => ?_) (fun _ => ?_)) | (with_reducible refine Br_bt (by assumption) ?_) | (with_reducible refine Br_bf (by assumption) ?_) | (with_reducible refine Br_b (fun _ => ?_) (fun _ => ?_)) | (with_reducible refine IfK_pos (by first | assumption | omega) ?_) | (with_reducible refine IfK_neg (by first | assumption | omega) ?_) | (with_reducible refine IfK_bf (by assumption) ?_) | (with_reducible refine IfK_dec (fun _ => ?_) (fun _ => ?_)) | (with_reducible refine And.intro ?_ ?_) | simp (maxSteps := 10000000) (disch := ((try simp only [len_pushv, len_put, len_putB, List.length_take, List.length_drop, List.length_append, List.length_map, List.length_replicate, List.length_set, List.length_cons, List.length_nil, true_and, and_true]); first | done | omega | (repeat' (first | exact St.le.refl _ | assumption | refine le_pushv ?_ | refine le_put ?_ (by first | omega | (simp only [len_pushv, len_put]; omega)))))) only [W, Gives, pinsAfter, ↓reduceIte, Nat.reduceEqDiff, Nat.reduceAdd, Nat.reduceMul, Nat.reduceSub, ne_eq, Int.reduceEq, Int.reduceNeg, Int.reduceToNat, Int.reduceAdd, Int.reduceSub, Int.reduceMul, Int.reduceDiv, Int.reduceMod, Int.reduceLT, Int.reduceLE, Nat.reduceLeDiff, Nat.reduceBEq, Nat.reduceLT, code_head_text]))
  exact ret_same rfl ⟨rfl, rfl⟩

def rightSum (l : List UInt8) : Bool := decide (l.length = 512) && match octAll ((l.drop 148).take 8) with
  | none => false
  | some n => decide (n = plainSum l) || decide (n = signedSum l)
theorem sum_Right {W0 : World} {S : St} {x : AV} {l : List UInt8} (hx : Bytes S x l) (hl : l.length ≤ 1000000) : Gives Pr W0 Fn.sum_Right [x] S (.bool (rightSum l)) := by
  refine in_sum_Right (by simp) ?_
  have xl := hx.len
  by_cases h : l.length = 512
  · have xs := hx.sub (a := some (.int .i64 148)) (b := some (.int .i64 156)) (lo := 148) (hi := 156) (bnd_ok (by omega)) (bnd_ok (by omega))
    have hy := hx.subB (lo := 148) (hi := 156) (by omega) (by omega)
    have hn : ((l.drop 148).take 8).length = 8 := by simp; omega
    (repeat' (first | (with_reducible refine @Br_pos _ _ _ _ _ _ (by first | assumption | omega) ?_) | (with_reducible refine @Br_neg _ _ _ _ _ _ (by first | assumption | omega) ?_) | (with_reducible refine @Br_dec _ _ _ _ _ _ (fun _ => ?_) (fun _ => ?_)) | (with_reducible refine Br_bt (by assumption) ?_) | (with_reducible refine Br_bf (by assumption) ?_) | (with_reducible refine Br_b (fun _ => ?_) (fun _ => ?_)) | (with_reducible refine IfK_pos (by first | assumption | omega) ?_) | (with_reducible refine IfK_neg (by first | assumption | omega) ?_) | (with_reducible refine IfK_bf (by assumption) ?_) | (with_reducible refine IfK_dec (fun _ => ?_) (fun _ => ?_)) | (with_reducible refine And.intro ?_ ?_) | simp (maxSteps := 10000000) (disch := ((try simp only [len_pushv, len_put, len_putB, List.length_take, List.length_drop, List.length_append, List.length_map, List.length_replicate, List.length_set, List.length_cons, List.length_nil, true_and, and_true]); first | done | omega | (repeat' (first | exact St.le.refl _ | assumption | refine le_pushv ?_ | refine le_put ?_ (by first | omega | (simp only [len_pushv, len_put]; omega)))))) only [W, Gives, pinsAfter, ↓reduceIte, Nat.reduceEqDiff, Nat.reduceAdd, Nat.reduceMul, Nat.reduceSub, ne_eq, Int.reduceEq, Int.reduceNeg, Int.reduceToNat, Int.reduceAdd, Int.reduceSub, Int.reduceMul, Int.reduceDiv, Int.reduceMod, Int.reduceLT, Int.reduceLE, Nat.reduceLeDiff, Nat.reduceBEq, Nat.reduceLT, code_sum_Right, code_sum_Right_k0, xl, xs]))
    refine (octal_ParseA hy (by simp; omega)).go ?_
    have e : (l.drop 148).take (156 - 148) = (l.drop 148).take 8 := rfl
    rw [e]
    have hr : rightSum l = match octAll ((l.drop 148).take 8) with
      | none => false
      | some n => decide (n = plainSum l) || decide (n = signedSum l) := by simp [rightSum, h]
    rw [hr]
    cases octAll ((l.drop 148).take 8) with
    | none =>
      (repeat' (first | (with_reducible refine @Br_pos _ _ _ _ _ _ (by first | assumption | omega) ?_) | (with_reducible refine @Br_neg _ _ _ _ _ _ (by first | assumption | omega) ?_) | (with_reducible refine @Br_dec _ _ _ _ _ _ (fun _ => ?_) (fun _ => ?_)) | (with_reducible refine Br_bt (by assumption) ?_) | (with_reducible refine Br_bf (by assumption) ?_) | (with_reducible refine Br_b (fun _ => ?_) (fun _ => ?_)) | (with_reducible refine IfK_pos (by first | assumption | omega) ?_) | (with_reducible refine IfK_neg (by first | assumption | omega) ?_) | (with_reducible refine IfK_bf (by assumption) ?_) | (with_reducible refine IfK_dec (fun _ => ?_) (fun _ => ?_)) | (with_reducible refine And.intro ?_ ?_) | simp (maxSteps := 10000000) (disch := ((try simp only [len_pushv, len_put, len_putB, List.length_take, List.length_drop, List.length_append, List.length_map, List.length_replicate, List.length_set, List.length_cons, List.length_nil, true_and, and_true]); first | done | omega | (repeat' (first | exact St.le.refl _ | assumption | refine le_pushv ?_ | refine le_put ?_ (by first | omega | (simp only [len_pushv, len_put]; omega)))))) only [W, Gives, pinsAfter, ↓reduceIte, Nat.reduceEqDiff, Nat.reduceAdd, Nat.reduceMul, Nat.reduceSub, ne_eq, Int.reduceEq, Int.reduceNeg, Int.reduceToNat, Int.reduceAdd, Int.reduceSub, Int.reduceMul, Int.reduceDiv, Int.reduceMod, Int.reduceLT, Int.reduceLE, Nat.reduceLeDiff, Nat.reduceBEq, Nat.reduceLT, code_sum_Right, code_sum_Right_k0, numI]))
      exact ret_same rfl ⟨rfl, rfl⟩
    | some n =>
      (repeat' (first | (with_reducible refine @Br_pos _ _ _ _ _ _ (by first | assumption | omega) ?_) | (with_reducible refine @Br_neg _ _ _ _ _ _ (by first | assumption | omega) ?_) | (with_reducible refine @Br_dec _ _ _ _ _ _ (fun _ => ?_) (fun _ => ?_)) | (with_reducible refine Br_bt (by assumption) ?_) | (with_reducible refine Br_bf (by assumption) ?_) | (with_reducible refine Br_b (fun _ => ?_) (fun _ => ?_)) | (with_reducible refine IfK_pos (by first | assumption | omega) ?_) | (with_reducible refine IfK_neg (by first | assumption | omega) ?_) | (with_reducible refine IfK_bf (by assumption) ?_) | (with_reducible refine IfK_dec (fun _ => ?_) (fun _ => ?_)) | (with_reducible refine And.intro ?_ ?_) | simp (maxSteps := 10000000) (disch := ((try simp only [len_pushv, len_put, len_putB, List.length_take, List.length_drop, List.length_append, List.length_map, List.length_replicate, List.length_set, List.length_cons, List.length_nil, true_and, and_true]); first | done | omega | (repeat' (first | exact St.le.refl _ | assumption | refine le_pushv ?_ | refine le_put ?_ (by first | omega | (simp only [len_pushv, len_put]; omega)))))) only [W, Gives, pinsAfter, ↓reduceIte, Nat.reduceEqDiff, Nat.reduceAdd, Nat.reduceMul, Nat.reduceSub, ne_eq, Int.reduceEq, Int.reduceNeg, Int.reduceToNat, Int.reduceAdd, Int.reduceSub, Int.reduceMul, Int.reduceDiv, Int.reduceMod, Int.reduceLT, Int.reduceLE, Nat.reduceLeDiff, Nat.reduceBEq, Nat.reduceLT, code_sum_Right, code_sum_Right_k0, numI]))
      refine (sum_Plain hx hl).go ?_
      (repeat' (first | (with_reducible refine @Br_pos _ _ _ _ _ _ (by first | assumption | omega) ?_) | (with_reducible refine @Br_neg _ _ _ _ _ _ (by first | assumption | omega) ?_) | (with_reducible refine @Br_dec _ _ _ _ _ _ (fun _ => ?_) (fun _ => ?_)) | (with_reducible refine Br_bt (by assumption) ?_) | (with_reducible refine Br_bf (by assumption) ?_) | (with_reducible refine Br_b (fun _ => ?_) (fun _ => ?_)) | (with_reducible refine IfK_pos (by first | assumption | omega) ?_) | (with_reducible refine IfK_neg (by first | assumption | omega) ?_) | (with_reducible refine IfK_bf (by assumption) ?_) | (with_reducible refine IfK_dec (fun _ => ?_) (fun _ => ?_)) | (with_reducible refine And.intro ?_ ?_) | simp (maxSteps := 10000000) (disch := ((try simp only [len_pushv, len_put, len_putB, List.length_take, List.length_drop, List.length_append, List.length_map, List.length_replicate, List.length_set, List.length_cons, List.length_nil, true_and, and_true]); first | done | omega | (repeat' (first | exact St.le.refl _ | assumption | refine le_pushv ?_ | refine le_put ?_ (by first | omega | (simp only [len_pushv, len_put]; omega)))))) only [W, Gives, pinsAfter, ↓reduceIte, Nat.reduceEqDiff, Nat.reduceAdd, Nat.reduceMul, Nat.reduceSub, ne_eq, Int.reduceEq, Int.reduceNeg, Int.reduceToNat, Int.reduceAdd, Int.reduceSub, Int.reduceMul, Int.reduceDiv, Int.reduceMod, Int.reduceLT, Int.reduceLE, Nat.reduceLeDiff, Nat.reduceBEq, Nat.reduceLT, code_sum_Right, code_sum_Right_k0, numI]))
      · rename_i h1
        exact ret_same rfl ⟨rfl, by simp [h1]⟩
      · refine (sum_Signed hx hl).go ?_
        rename_i h1
        (repeat' (first | (with_reducible refine @Br_pos _ _ _ _ _ _ (by first | assumption | omega) ?_) | (with_reducible refine @Br_neg _ _ _ _ _ _ (by first | assumption | omega) ?_) | (with_reducible refine @Br_dec _ _ _ _ _ _ (fun _ => ?_) (fun _ => ?_)) | (with_reducible refine Br_bt (by assumption) ?_) | (with_reducible refine Br_bf (by assumption) ?_) | (with_reducible refine Br_b (fun _ => ?_) (fun _ => ?_)) | (with_reducible refine IfK_pos (by first | assumption | omega) ?_) | (with_reducible refine IfK_neg (by first | assumption | omega) ?_) | (with_reducible refine IfK_bf (by assumption) ?_) | (with_reducible refine IfK_dec (fun _ => ?_) (fun _ => ?_)) | (with_reducible refine And.intro ?_ ?_) | simp (maxSteps := 10000000) (disch := ((try simp only [len_pushv, len_put, len_putB, List.length_take, List.length_drop, List.length_append, List.length_map, List.length_replicate, List.length_set, List.length_cons, List.length_nil, true_and, and_true]); first | done | omega | (repeat' (first | exact St.le.refl _ | assumption | refine le_pushv ?_ | refine le_put ?_ (by first | omega | (simp only [len_pushv, len_put]; omega)))))) only [W, Gives, pinsAfter, ↓reduceIte, Nat.reduceEqDiff, Nat.reduceAdd, Nat.reduceMul, Nat.reduceSub, ne_eq, Int.reduceEq, Int.reduceNeg, Int.reduceToNat, Int.reduceAdd, Int.reduceSub, Int.reduceMul, Int.reduceDiv, Int.reduceMod, Int.reduceLT, Int.reduceLE, Nat.reduceLeDiff, Nat.reduceBEq, Nat.reduceLT, code_sum_Right, code_sum_Right_k0, numI]))
        exact ret_same rfl ⟨rfl, by simp [h1]⟩
  · (repeat' (first | (with_reducible refine @Br_pos _ _ _ _ _ _ (by first | assumption | omega) ?_) | (with_reducible refine @Br_neg _ _ _ _ _ _ (by first | assumption | omega) ?_) | (with_reducible refine @Br_dec _ _ _ _ _ _ (fun _ => ?_) (fun _ => ?_)) | (with_reducible refine Br_bt (by assumption) ?_) | (with_reducible refine Br_bf (by assumption) ?_) | (with_reducible refine Br_b (fun _ => ?_) (fun _ => ?_)) | (with_reducible refine IfK_pos (by first | assumption | omega) ?_) | (with_reducible refine IfK_neg (by first | assumption | omega) ?_) | (with_reducible refine IfK_bf (by assumption) ?_) | (with_reducible refine IfK_dec (fun _ => ?_) (fun _ => ?_)) | (with_reducible refine And.intro ?_ ?_) | simp (maxSteps := 10000000) (disch := ((try simp only [len_pushv, len_put, len_putB, List.length_take, List.length_drop, List.length_append, List.length_map, List.length_replicate, List.length_set, List.length_cons, List.length_nil, true_and, and_true]); first | done | omega | (repeat' (first | exact St.le.refl _ | assumption | refine le_pushv ?_ | refine le_put ?_ (by first | omega | (simp only [len_pushv, len_put]; omega)))))) only [W, Gives, pinsAfter, ↓reduceIte, Nat.reduceEqDiff, Nat.reduceAdd, Nat.reduceMul, Nat.reduceSub, ne_eq, Int.reduceEq, Int.reduceNeg, Int.reduceToNat, Int.reduceAdd, Int.reduceSub, Int.reduceMul, Int.reduceDiv, Int.reduceMod, Int.reduceLT, Int.reduceLE, Nat.reduceLeDiff, Nat.reduceBEq, Nat.reduceLT, code_sum_Right, code_sum_Right_k0, xl]))
    exact ret_same rfl ⟨rfl, by simp [rightSum, h]⟩

theorem plainSum_le (l : List UInt8) : 0 ≤ plainSum l ∧ plainSum l ≤ 256 * (l.length : Int) := by
  refine ⟨?_, (sumFrom_bound (fun n hn => by omega) l 0).2⟩
  unfold plainSum
  generalize 0 = i
  induction l generalizing i with
  | nil => simp [sumFrom]
  | cons b r ih => have := ih (i + 1); simp only [sumFrom]; omega
/-- A header that bears its sum. -/
def sealB (l : List UInt8) : List UInt8 := putB l 148 (octField (plainSum l).toNat 7 ++ [32])
theorem octField_length (n w : Nat) (h : 0 < w) : (octField n w).length = w := by simp [octField, octDig_length]; omega
theorem octLen_small {n : Nat} : n < 262144 → octLen n < 7 := by
  intro h
  rcases Nat.lt_or_ge n 8 with h1 | h1
  · rw [octLen_lt h1]; omega
  rw [octLen_ge h1]
  rcases Nat.lt_or_ge (n / 8) 8 with h2 | h2
  · rw [octLen_lt h2]; omega
  rw [octLen_ge h2]
  rcases Nat.lt_or_ge (n / 8 / 8) 8 with h3 | h3
  · rw [octLen_lt h3]; omega
  rw [octLen_ge h3]
  rcases Nat.lt_or_ge (n / 8 / 8 / 8) 8 with h4 | h4
  · rw [octLen_lt h4]; omega
  rw [octLen_ge h4]
  rcases Nat.lt_or_ge (n / 8 / 8 / 8 / 8) 8 with h5 | h5
  · rw [octLen_lt h5]; omega
  rw [octLen_ge h5, octLen_lt (by omega)]; omega

theorem sum_Seal {W0 : World} {S : St} {x : AV} {l : List UInt8} (hx : Bytes S x l) (hl : l.length = 512) (hu : x.under S.len = true) : CallsA Pr W0 Fn.sum_Seal [x] S fun r S' => r = .tup [.ref S.len 0 1 0 512, .int .i64 0] ∧ S' = S.pushv 0 (.row ((sealB l).map u8)) := by
  refine in_sum_Seal (by simp) ?_
  have xl := hx.len
  have xr := hx.2
  have hb := plainSum_le l
  obtain ⟨p, hp⟩ := Int.eq_ofNat_of_zero_le hb.1
  (repeat' (first | (with_reducible refine @Br_pos _ _ _ _ _ _ (by first | assumption | omega) ?_) | (with_reducible refine @Br_neg _ _ _ _ _ _ (by first | assumption | omega) ?_) | (with_reducible refine @Br_dec _ _ _ _ _ _ (fun _ => ?_) (fun _ => ?_)) | (with_reducible refine Br_bt (by assumption) ?_) | (with_reducible refine Br_bf (by assumption) ?_) | (with_reducible refine Br_b (fun _ => ?_) (fun _ => ?_)) | (with_reducible refine IfK_pos (by first | assumption | omega) ?_) | (with_reducible refine IfK_neg (by first | assumption | omega) ?_) | (with_reducible refine IfK_bf (by assumption) ?_) | (with_reducible refine IfK_dec (fun _ => ?_) (fun _ => ?_)) | (with_reducible refine And.intro ?_ ?_) | simp (maxSteps := 10000000) (disch := ((try simp only [len_pushv, len_put, len_putB, List.length_take, List.length_drop, List.length_append, List.length_map, List.length_replicate, List.length_set, List.length_cons, List.length_nil, true_and, and_true]); first | done | omega | (repeat' (first | exact St.le.refl _ | assumption | refine le_pushv ?_ | refine le_put ?_ (by first | omega | (simp only [len_pushv, len_put]; omega)))))) only [W, Gives, pinsAfter, ↓reduceIte, Nat.reduceEqDiff, Nat.reduceAdd, Nat.reduceMul, Nat.reduceSub, ne_eq, Int.reduceEq, Int.reduceNeg, Int.reduceToNat, Int.reduceAdd, Int.reduceSub, Int.reduceMul, Int.reduceDiv, Int.reduceMod, Int.reduceLT, Int.reduceLE, Nat.reduceLeDiff, Nat.reduceBEq, Nat.reduceLT, code_sum_Seal, code_sum_Seal_k0, code_sum_Seal_k1, xl, xr]))
  refine (sum_Plain (hx.pushv hu) (by omega)).go ?_
  rw [hp]
  refine (octal_Format (n := p) (w := 7) (by omega) (by omega) (octLen_small (by omega))).mono ?_
  rintro r S' ⟨rfl, rfl⟩
  have hf : (octField p 7).length = 7 := octField_length p 7 (by omega)
  (repeat' (first | (with_reducible refine @Br_pos _ _ _ _ _ _ (by first | assumption | omega) ?_) | (with_reducible refine @Br_neg _ _ _ _ _ _ (by first | assumption | omega) ?_) | (with_reducible refine @Br_dec _ _ _ _ _ _ (fun _ => ?_) (fun _ => ?_)) | (with_reducible refine Br_bt (by assumption) ?_) | (with_reducible refine Br_bf (by assumption) ?_) | (with_reducible refine Br_b (fun _ => ?_) (fun _ => ?_)) | (with_reducible refine IfK_pos (by first | assumption | omega) ?_) | (with_reducible refine IfK_neg (by first | assumption | omega) ?_) | (with_reducible refine IfK_bf (by assumption) ?_) | (with_reducible refine IfK_dec (fun _ => ?_) (fun _ => ?_)) | (with_reducible refine And.intro ?_ ?_) | simp (maxSteps := 10000000) (disch := ((try simp only [len_pushv, len_put, len_putB, List.length_take, List.length_drop, List.length_append, List.length_map, List.length_replicate, List.length_set, List.length_cons, List.length_nil, true_and, and_true]); first | done | omega | (repeat' (first | exact St.le.refl _ | assumption | refine le_pushv ?_ | refine le_put ?_ (by first | omega | (simp only [len_pushv, len_put]; omega)))))) only [W, Gives, pinsAfter, ↓reduceIte, Nat.reduceEqDiff, Nat.reduceAdd, Nat.reduceMul, Nat.reduceSub, ne_eq, Int.reduceEq, Int.reduceNeg, Int.reduceToNat, Int.reduceAdd, Int.reduceSub, Int.reduceMul, Int.reduceDiv, Int.reduceMod, Int.reduceLT, Int.reduceLE, Nat.reduceLeDiff, Nat.reduceBEq, Nat.reduceLT, code_sum_Seal, code_sum_Seal_k0, code_sum_Seal_k1, hf, hl]))
  have e1 : (octField p 7).take 7 = octField p 7 := List.take_of_length_le (by omega)
  have e2 : (octField p 7).map u8 ++ [AV.int .u8 32] = (octField p 7 ++ [32]).map u8 := by simp [u8]
  rw [e2, m_put (by simp [hf]; omega)]
  have e3 : putB l 148 (octField p 7 ++ [32]) = sealB l := by rw [sealB, hp]; rfl
  rw [e3]
  refine ret_1 (b := (0, .row ((sealB l).map u8))) (le_pushv (le_pushv (.refl _))) (by simp [len_pushv]) (by simp [AV.under, underL]) (by simp (maxSteps := 10000000) (disch := ((try simp only [len_pushv, len_put, len_putB, List.length_take, List.length_drop, List.length_append, List.length_map, List.length_replicate, List.length_set, List.length_cons, List.length_nil, true_and, and_true]); first | done | omega | (repeat' (first | exact St.le.refl _ | assumption | refine le_pushv ?_ | refine le_put ?_ (by first | omega | (simp only [len_pushv, len_put]; omega)))))) only [W, Gives, pinsAfter, ↓reduceIte, Nat.reduceEqDiff, Nat.reduceAdd, Nat.reduceMul, Nat.reduceSub, ne_eq, Int.reduceEq, Int.reduceNeg, Int.reduceToNat, Int.reduceAdd, Int.reduceSub, Int.reduceMul, Int.reduceDiv, Int.reduceMod, Int.reduceLT, Int.reduceLE, Nat.reduceLeDiff, Nat.reduceBEq, Nat.reduceLT]) (under_bytes _ _) ⟨rfl, ?_⟩
  simp (maxSteps := 10000000) (disch := ((try simp only [len_pushv, len_put, len_putB, List.length_take, List.length_drop, List.length_append, List.length_map, List.length_replicate, List.length_set, List.length_cons, List.length_nil, true_and, and_true]); first | done | omega | (repeat' (first | exact St.le.refl _ | assumption | refine le_pushv ?_ | refine le_put ?_ (by first | omega | (simp only [len_pushv, len_put]; omega)))))) only [W, Gives, pinsAfter, ↓reduceIte, Nat.reduceEqDiff, Nat.reduceAdd, Nat.reduceMul, Nat.reduceSub, ne_eq, Int.reduceEq, Int.reduceNeg, Int.reduceToNat, Int.reduceAdd, Int.reduceSub, Int.reduceMul, Int.reduceDiv, Int.reduceMod, Int.reduceLT, Int.reduceLE, Nat.reduceLeDiff, Nat.reduceBEq, Nat.reduceLT]
end Go.Proofs.YtnfiihdebonadaaGreatDoor.Abs
