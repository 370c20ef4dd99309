import Derived.Test.YtnfiihdebonadaaGreatDoorZCode
import Derived.Tactics
set_option linter.unusedSimpArgs false
set_option linter.unusedVariables false
set_option linter.unusedSectionVars false
namespace Go.Proofs.YtnfiihdebonadaaGreatDoor.Abs
section
variable {P : Program} {W0 : World} {ρ : Ghost} {S : St} {w : World}

def Fine (P : Program) (W0 : World) (ρ : Ghost) (S : St) (w : World) (m : Sem Next) (r : AV) (S' : St) : Prop :=
  ∃ nx v w' ρ', m.run P w = .ok nx w' ∧ (nx = .value v ∨ (nx = .skip ∧ v = undef)) ∧ VRel ρ' S' w' r v ∧ SRel W0 ρ' S' w' ∧ Ext ρ S w ρ' S' w'

theorem Res.next {m : Sem Value} {r : AV} {S' : St} (h : Res P W0 ρ S w m r S') : Fine P W0 ρ S w (do Pure.pure (Next.value (← m)) : Sem Next) r S' := by
  obtain ⟨v, w', ρ', h1, h2, h3, h4⟩ := h
  exact ⟨.value v, v, w', ρ', by simp [h1], .inl rfl, h2, h3, h4⟩

theorem Fine.val {r : AV} {v : Value} (h : SRel W0 ρ S w) (hr : VRel ρ S w r v) : Fine P W0 ρ S w (pure (.value v)) r S := ⟨.value v, v, w, ρ, rfl, .inl rfl, hr, h, .refl _ _ _⟩

theorem parts_sound {e : Env} {a : Act} (hE : ERel ρ S w e a) {ps : Array (Nat × Operand)} (hok : okParts ps = true) {l : List (Nat × Nat × Operand)} (hl : l.length = ps.size) (hx : ∀ (j : Nat) (p : Nat × Nat × Operand) (q : Nat × Operand), l[j]? = some p → ps[j]? = some q → p.2.2 = q.2) :
    (evParts e l).length = (ps.map fun (i, x) => (i, a.eval x)).size ∧ ∀ (j : Nat) (p : Nat × Nat × AV) (q : Nat × Value), (evParts e l)[j]? = some p → (ps.map fun (i, x) => (i, a.eval x))[j]? = some q →
      (∃ p0 q0, l[j]? = some p0 ∧ ps[j]? = some q0 ∧ p.1 = p0.1 ∧ p.2.1 = p0.2.1 ∧ q.1 = q0.1) ∧ VRel ρ S w p.2.2 q.2 := by
  refine ⟨by simp [evParts, hl], fun j p q hp hq => ?_⟩
  simp only [evParts, List.getElem?_map, Array.getElem?_map] at hp hq
  cases hp0 : l[j]? with
  | none => simp [hp0] at hp
  | some p0 =>
    cases hq0 : ps[j]? with
    | none => simp [hq0] at hq
    | some q0 =>
      simp only [hp0, hq0, Option.map_some, Option.some.injEq] at hp hq
      subst hp; subst hq
      refine ⟨⟨p0, q0, rfl, rfl, rfl, rfl, rfl⟩, ?_⟩
      have hxx := hx j p0 q0 hp0 hq0
      have hoq : okOpd q0.2 = true := List.all_eq_true.1 hok q0 (by simpa using Array.mem_of_getElem? hq0)
      show VRel ρ S w (evA e p0.2.2) (a.eval q0.2)
      rw [hxx]; exact hE.ev _ hoq

theorem parts?_eq {pl : List (Nat × Nat)} : ∀ {ps : List (Nat × Operand)} {l : List (Nat × Nat × Operand)}, (ps.mapM fun q => (pl[q.1]?).map fun p => (p.1, p.2, q.2)) = some l →
    l.length = ps.length ∧ ∀ (j : Nat) (p : Nat × Nat × Operand) (q : Nat × Operand), l[j]? = some p → ps[j]? = some q → p.2.2 = q.2 ∧ pl[q.1]? = some (p.1, p.2.1)
  | [], l, h => by simp at h; subst h; exact ⟨rfl, fun j p q hp => by simp at hp⟩
  | q0 :: ps, l, h => by
    simp only [List.mapM_cons, Option.bind_eq_bind, Option.pure_def, Option.bind_eq_some_iff, Option.map_eq_some_iff, Option.some.injEq] at h
    obtain ⟨p0, ⟨z, hz, rfl⟩, l', hl', rfl⟩ := h
    obtain ⟨i1, i2⟩ := parts?_eq hl'
    refine ⟨by simp [i1], fun j p q hp hq => ?_⟩
    cases j with
    | zero => simp at hp hq; subst hp; subst hq; exact ⟨rfl, hz⟩
    | succ j => exact i2 j p q (by simpa using hp) (by simpa using hq)

theorem opt_sound {e : Env} {a : Act} (hE : ERel ρ S w e a) {x : Option Operand} (h : okOpt x = true) : OVRel ρ S w (evOpt e x) (x.map a.eval) := by
  cases x with
  | none => trivial
  | some x => exact hE.ev x h

theorem ofValue_nilI {v : Value} (h : v = .nilIface) : ∀ {u : Value}, VRel ρ S w (AV.ofValue v) u → u = .nilIface := by
  subst h
  intro u hu
  simp only [AV.ofValue, AV.ofValue1] at hu
  cases hu; rfl

theorem builtin_next {ρ' : Operand → Value} {c : Call} {b : Builtin} {m : Sem Value} {r : AV} {S' : St} {ty : TypeId} {ops : Oper} (hop : ops.op = .call c) (hty : ops.type = ty) (hb : c.callee = .builtin b)
    (hm : ∀ consts, builtin b c.argTypes ty consts (c.args.map ρ') = (do Pure.pure (Next.value (← m)))) (h : Res P W0 ρ S w m r S') : Fine P W0 ρ S w (execOp ρ' ops) r S' := by
  have e : execOp ρ' ops = (do Pure.pure (Next.value (← m))) := by
    unfold execOp
    simp only [hop, resolve, hb, hty, pure_bind, invoke, hm]
  rw [e]; exact h.next

theorem len_str_sound (h : SRel W0 ρ S w) {t T : TypeId} {x r : AV} {v : Value} (hu : P.underlying T = some .string) (hx : VRel ρ S w x v) (he : lenSA x = some r) : Res P W0 ρ S w (Builtin.len_ #[T] t #[v]) r S := by
  cases hx with
  | str s =>
    simp only [lenSA] at he; cases he
    exact len_sound h hu (.inl rfl) (fun _ => ⟨s, rfl⟩) (fun _ _ => rfl) (.str s) rfl
  | _ => simp [lenSA] at he

theorem len_sl_sound (h : SRel W0 ρ S w) {t T e : TypeId} {x r : AV} {v : Value} (hu : P.underlying T = some (.slice e)) (hx : VRel ρ S w x v) (he : lenLA S x = some r) : Res P W0 ρ S w (Builtin.len_ #[T] t #[v]) r S := by
  have hl : ∃ n, lenA S x = some n ∧ r = .int .i64 n ∧ ∀ s, x ≠ .str s := by
    cases x <;> simp only [lenLA] at he <;> (try cases he)
    case ref id ver k off len =>
      split at he
      · rename_i hv; cases he; exact ⟨len, by simp [lenA, hv], rfl, fun s => by simp⟩
      · cases he
    case list => exact ⟨_, rfl, rfl, fun s => by simp⟩
  obtain ⟨n, h1, rfl, h3⟩ := hl
  exact len_sound h hu (.inr ⟨e, rfl⟩) (fun hd => by cases hd) (fun s hs => absurd hs (h3 s)) hx h1

theorem min_sound (h : SRel W0 ρ S w) {tys : Array TypeId} {t : TypeId} {x y r : AV} {v u : Value} (hx : VRel ρ S w x v) (hy : VRel ρ S w y u) (he : minA x y = some r) : Res P W0 ρ S w (Builtin.min_ tys t #[v, u]) r S := by
  cases hx with
  | int k a =>
    cases hy with
    | int k' b => simp only [minA] at he; cases he; exact .pure h rfl (.int _ _)
    | _ => simp [minA] at he
  | _ => simp [minA] at he
theorem max_sound (h : SRel W0 ρ S w) {tys : Array TypeId} {t : TypeId} {x y r : AV} {v u : Value} (hx : VRel ρ S w x v) (hy : VRel ρ S w y u) (he : maxA x y = some r) : Res P W0 ρ S w (Builtin.max_ tys t #[v, u]) r S := by
  cases hx with
  | int k a =>
    cases hy with
    | int k' b => simp only [maxA] at he; cases he; exact .pure h rfl (.int _ _)
    | _ => simp [maxA] at he
  | _ => simp [maxA] at he

theorem arr1 {α : Type} {a : Array α} {x : α} (h : a.toList = [x]) : a = #[x] := by
  have := congrArg List.toArray h; simpa using this
theorem arr2 {α : Type} {a : Array α} {x y : α} (h : a.toList = [x, y]) : a = #[x, y] := by
  have := congrArg List.toArray h; simpa using this

theorem op_sound1 {o : Oper} {ao : AOp} {e : Env} {a : Act} {r : AV} {S' : St} (h : SRel W0 ρ S w) (hE : ERel ρ S w e a) (hc : compileOp1 P o.op = some ao) (he : ev ao e S = some (r, S')) :
    Fine P W0 ρ S w (execOp a.eval o) r S' := by
  obtain ⟨dst, op, type, pos, after, guard⟩ := o
  simp only at hc
  cases op <;> simp only [compileOp1] at hc
  case move x =>
    split at hc
    · rename_i hx; cases hc; simp only [ev] at he; cases he; exact .val h (hE.ev x hx)
    · cases hc
  case assign x =>
    split at hc
    · rename_i hx; cases hc; simp only [ev] at he; cases he; exact .val h (hE.ev x hx)
    · cases hc
  case pick c x y =>
    split at hc
    · rename_i hx
      simp only [Bool.and_eq_true] at hx
      cases hc
      simp only [ev] at he
      split at he
      · rename_i t ht
        cases he
        have hcv := hE.ev c hx.1.1
        rw [ht] at hcv
        generalize hv : a.eval c = vc at hcv
        cases hcv
        have : Fine P W0 ρ S w (do pure (.value (if ← asBool (a.eval c) then a.eval x else a.eval y))) (if t = true then evA e x else evA e y) S := by
          rw [hv]
          refine ⟨.value (if t then a.eval x else a.eval y), _, w, ρ, by simp [asBool], .inl rfl, ?_, h, .refl _ _ _⟩
          cases t
          · exact hE.ev y hx.2
          · exact hE.ev x hx.1.2
        exact this
      · cases he
    · cases hc
  case alloc T =>
    simp only [Option.map_eq_some_iff] at hc
    obtain ⟨z, hz, rfl⟩ := hc
    obtain ⟨zv, h1, h2, rfl⟩ := zero1_eq hz
    simp only [ev] at he; cases he
    exact (alloc_sound h h1 h2).next
  case range T x =>
    split at hc
    · rename_i hx; cases hc
      simp only [Bool.and_eq_true] at hx
      simp only [ev] at he
      have hs : P.underlying T = some .string := by
        have := hx.2; unfold isStr at this; split at this
        · assumption
        · cases this
      exact (range_sound h hs (hE.ev x hx.1) he).next
    · cases hc
  case next x st =>
    cases st with
    | false => cases hc
    | true =>
      simp only at hc
      split at hc
      · rename_i hx; cases hc
        simp only [ev] at he
        exact (next_sound h (hE.ev x hx) he).next
      · cases hc
  case box T x =>
    split at hc
    · rename_i hx; cases hc
      simp only [ev, Option.map_eq_some_iff] at he
      obtain ⟨cs, hcs, he⟩ := he
      cases he
      exact (box_sound h (hE.ev x hx) hcs).next
    · cases hc
  case build T ps =>
    split at hc
    · rename_i hok
      split at hc
      · rename_i fs hu
        simp only [Option.bind_eq_some_iff, Option.map_eq_some_iff] at hc
        obtain ⟨pl, hpl, z, hz, q, hq, rfl⟩ := hc
        obtain ⟨zv, h1, h2, rfl⟩ := zero1_eq hz
        simp only [ev, Option.map_eq_some_iff] at he
        obtain ⟨cs, hcs, he⟩ := he
        cases he
        obtain ⟨p1, p2⟩ := parts?_eq hq
        obtain ⟨q1, q2⟩ := parts_sound hE hok (l := q) (by simpa using p1) (fun j p q0 hp hq0 => (p2 j p q0 hp (by simpa using hq0)).1)
        refine (build_struct_sound h hu h1 h2 hpl q1 (fun j p q0 hp hq0 => ?_) hcs).next
        obtain ⟨⟨p0, q00, r1, r2, r3, r4, r5⟩, r6⟩ := q2 j p q0 hp hq0
        have := (p2 j p0 q00 r1 (by simpa using r2)).2
        exact ⟨by rw [r5, this, r3, r4], r6⟩
      · rename_i n el hu
        simp only [Option.bind_eq_some_iff, Option.map_eq_some_iff] at hc
        obtain ⟨k, hk, z, hz, rfl⟩ := hc
        obtain ⟨zv, h1, h2, rfl⟩ := zero1_eq hz
        simp only [ev, Option.map_eq_some_iff] at he
        obtain ⟨cs, hcs, he⟩ := he
        cases he
        have hel : ∀ (j : Nat) (p : Nat × Nat × Operand) (q : Nat × Operand), (eparts k ps)[j]? = some p → ps[j]? = some q → p.2.2 = q.2 ∧ (q.1 * k, k) = (p.1, p.2.1) := by
          intro j p q hp hq
          simp only [eparts, List.getElem?_map, Array.getElem?_toList, hq, Option.map_some, Option.some.injEq] at hp
          subst hp; exact ⟨rfl, rfl⟩
        obtain ⟨q1, q2⟩ := parts_sound hE hok (l := eparts k ps) (by simp [eparts]) (fun j p q hp hq => (hel j p q hp hq).1)
        refine (build_array_sound h hu hk h1 h2 q1 (fun j p q0 hp hq0 => ?_) hcs).next
        obtain ⟨⟨p0, q00, r1, r2, r3, r4, r5⟩, r6⟩ := q2 j p q0 hp hq0
        have := (hel j p0 q00 r1 r2).2
        exact ⟨by rw [r5, r3, r4, this], r6⟩
      · cases hc
    · cases hc
  case buildSlice T n ps =>
    split at hc
    · rename_i hok
      simp only [Option.bind_eq_some_iff] at hc
      obtain ⟨el, hel, k, hk, z, hz, hc⟩ := hc
      obtain ⟨zv, h1, h2, rfl⟩ := zero1_eq hz
      split at hc
      · rename_i hzk
        cases hc
        simp only [ev, Option.map_eq_some_iff] at he
        obtain ⟨cs, hcs, he⟩ := he
        cases he
        have hepl : ∀ (j : Nat) (p : Nat × Nat × Operand) (q : Nat × Operand), (eparts k ps)[j]? = some p → ps[j]? = some q → p.2.2 = q.2 ∧ (q.1 * k, k) = (p.1, p.2.1) := by
          intro j p q hp hq
          simp only [eparts, List.getElem?_map, Array.getElem?_toList, hq, Option.map_some, Option.some.injEq] at hp
          subst hp; exact ⟨rfl, rfl⟩
        obtain ⟨q1, q2⟩ := parts_sound hE hok (l := eparts k ps) (by simp [eparts]) (fun j p q hp hq => (hepl j p q hp hq).1)
        refine (bslice_sound h (sl?_eq hel) hk h1 (by simpa using hzk.1) hzk.2.1 (by omega) h2 q1 (fun j p q0 hp hq0 => ?_) hcs).next
        obtain ⟨⟨p0, q00, r1, r2, r3, r4, r5⟩, r6⟩ := q2 j p q0 hp hq0
        have := (hepl j p0 q00 r1 r2).2
        exact ⟨by rw [r5, r3, r4, this], r6⟩
      · cases hc
    · cases hc
  case load T x =>
    split at hc
    · rename_i hx
      simp only [Option.bind_eq_some_iff, Option.map_eq_some_iff] at hc
      obtain ⟨ag, hag, n, hn, rfl⟩ := hc
      simp only [ev, Option.map_eq_some_iff] at he
      obtain ⟨r', hr, he⟩ := he
      cases he
      obtain ⟨u, g1, g2⟩ := load_sound (P := P) h hag hn (hE.ev x hx) hr
      exact (Res.pure h g1 g2).next
    · cases hc
  case store T x y =>
    split at hc
    · rename_i hx
      simp only [Bool.and_eq_true] at hx
      simp only [Option.map_eq_some_iff] at hc
      obtain ⟨n, hn, rfl⟩ := hc
      simp only [ev, Option.map_eq_some_iff] at he
      obtain ⟨S'', hs, he⟩ := he
      cases he
      obtain ⟨w', g1, g2, g3⟩ := store_sound (P := P) h hn (hE.ev x hx.1) (hE.ev y hx.2) hs
      have : (do Instr.storeAt T (a.eval x) (a.eval y); pure .skip : Sem Next).run P w = .ok .skip w' := by simp [g1]
      exact ⟨.skip, Go.undef, w', ρ, this, .inr ⟨rfl, rfl⟩, .undef _, g2, g3⟩
    · cases hc
  case nilCheck x =>
    split at hc
    · rename_i hx
      cases hc
      simp only [ev, Option.map_eq_some_iff] at he
      obtain ⟨r', hr, he⟩ := he
      cases he
      have hxv := hE.ev x hx
      have hgo : ∀ ad, a.eval x = .pointer (some ad) → VRel ρ S w r (a.eval x) → Fine P W0 ρ S w (execOp a.eval ⟨dst, .nilCheck x, type, pos, after, guard⟩) r S := by
        intro ad had hr
        have e1 : execOp a.eval ⟨dst, .nilCheck x, type, pos, after, guard⟩ = pure (.value (a.eval x)) := by simp only [execOp, had]
        rw [e1]; exact .val h hr
      generalize hg : evA e x = ax at hxv hr
      generalize hv : a.eval x = vx at hxv
      cases hxv with
      | ptr id ver off v h1 hid hver hp =>
        simp only [nilchkA] at hr
        split at hr
        · rename_i hvv
          cases hr
          obtain ⟨B, b, hb, rfl⟩ := hp hvv
          exact hgo _ hv (by rw [hv]; exact .ptr id ver off _ h1 hid hver hp)
        · cases hr
      | eptr cells off B o cs hcc h1 hh => cases hr; exact hgo _ hv (by rw [hv]; exact .eptr cells off B o cs hcc h1 hh)
      | _ => simp [nilchkA] at hr
    · cases hc
  case binOp op T x y yT =>
    split at hc
    · rename_i hx
      simp only [Bool.and_eq_true] at hx
      simp only [Option.map_eq_some_iff] at hc
      obtain ⟨kd, hkd, rfl⟩ := hc
      simp only [ev, Option.map_eq_some_iff] at he
      obtain ⟨r', hr, he⟩ := he
      cases he
      obtain ⟨z, g1, g2⟩ := bin_sound (P := P) (xo := x) (yo := y) h (hE.ev x hx.1) (hE.ev y hx.2) hkd (fun c hy hcn => by subst hy; exact ofValue_nilI hcn (hE.ev (.const c) hx.2)) hr
      exact (Res.pure h g1 g2).next
    · cases hc
  case unOp op T x =>
    split at hc
    · rename_i hx
      cases hc
      simp only [ev, Option.map_eq_some_iff] at he
      obtain ⟨r', hr, he⟩ := he
      cases he
      exact (un_sound h (hE.ev x hx) hr).next
    · cases hc
  case convert src dst x =>
    split at hc
    · rename_i hx
      simp only [Bool.and_eq_true] at hx
      obtain ⟨d, hd⟩ := Option.isSome_iff_exists.1 hx.2
      have hxv := hE.ev x hx.1
      split at hc
      · rename_i k hk
        cases hc
        simp only [ev, Option.map_eq_some_iff] at he
        obtain ⟨r', hr, he⟩ := he
        cases he
        exact (convI_sound h hd hk hxv hr).next
      · rename_i hk
        split at hc
        · rename_i el hel
          split at hc
          · rename_i hu8
            cases hc
            simp only [ev] at he
            split at he
            · cases he
            · rename_i hne
              simp only [Option.bind_eq_some_iff, Option.map_eq_some_iff] at he
              obtain ⟨⟨n, cells⟩, hrd, s, hs, he⟩ := he
              cases he
              exact (convBS_sound h (sl?_eq hel) (isU8_eq hu8) hk hxv hne hrd hs).next
          · cases hc
        · split at hc
          · rename_i hst
            cases hc
            simp only [ev] at he
            split at he
            · rename_i s hs
              cases he
              rw [hs] at hxv
              exact (convSS_sound h hd hk hxv).next
            · cases he
          · split at hc
            · cases hc
              simp only [ev] at he
              split at he
              · rename_i k n hs
                cases he
                rw [hs] at hxv
                exact (convIS_sound h hx.2 hk hxv).next
              · cases he
            · cases hc
      · rename_i el hk
        split at hc
        · rename_i hu
          simp only [Bool.and_eq_true] at hu
          cases hc
          simp only [ev] at he
          split at he
          · rename_i s hs
            cases he
            rw [hs] at hxv
            exact (convSB_sound h hd hk (isU8_eq hu.1) hxv).next
          · cases he
        · cases hc
      · cases hc
    · cases hc
  case makeInterface T x =>
    split at hc
    · rename_i hx
      split at hc
      · cases hc
      · rename_i d hne hd
        cases hc
        simp only [ev] at he; cases he
        exact (mkI_sound h hd (fun ms hms => by subst hms; exact hne ms rfl) (hE.ev x hx)).next
      · cases hc
    · cases hc
  case makeFunc fn first captured =>
    split at hc
    · rename_i hx
      simp only [Bool.and_eq_true] at hx
      cases hc
      simp only [ev] at he; cases he
      have key : ∀ (l : Array Operand), l.toList.all okOpd = true → (l.toList.map (evA e)).length = (l.map a.eval).size ∧ ∀ (j : Nat) (x : AV), (l.toList.map (evA e))[j]? = some x → VRel ρ S w x ((l.map a.eval).getD j Go.undef) := by
        intro l hl
        refine ⟨by simp, fun j x hx => ?_⟩
        rw [List.getElem?_map, Array.getElem?_toList] at hx
        cases hj : l[j]? with
        | none => simp [hj] at hx
        | some y =>
          simp only [hj, Option.map_some, Option.some.injEq] at hx
          subst hx
          have : (l.map a.eval).getD j Go.undef = a.eval y := by simp [hj]
          rw [this]
          exact hE.ev y (List.all_eq_true.1 hl y (by simpa using Array.mem_of_getElem? hj))
      obtain ⟨k1, k2⟩ := key first hx.1
      obtain ⟨k3, k4⟩ := key captured hx.2
      have : Res P W0 ρ S w (Instr.makeFunc fn (first.map a.eval) (captured.map a.eval)) (.clo fn (first.toList.map (evA e)) (captured.toList.map (evA e))) S := .pure h rfl (.clo _ _ _ _ _ k1 k3 k2 k4)
      exact this.next
    · cases hc
  case makeSlice T l c =>
    split at hc
    · rename_i hx
      simp only [Bool.and_eq_true] at hx
      simp only [Option.bind_eq_some_iff] at hc
      obtain ⟨el, hel, k, hk, b, hb, z, hz, hc⟩ := hc
      obtain ⟨zv, h1, h2, rfl⟩ := zero1_eq hz
      split at hc
      · rename_i hzk
        cases hc
        simp only [ev] at he
        exact (mkSl_sound h (sl?_eq hel) hk hb h1 (by simpa using hzk.1) hzk.2 h2 (hE.ev l hx.1) (hE.ev c hx.2) he).next
      · cases hc
    · cases hc
  case slice T x lo hi mx =>
    split at hc
    · rename_i hx
      simp only [Bool.and_eq_true] at hx
      have hlo := opt_sound hE hx.1.1.2
      have hhi := opt_sound hE hx.1.2
      have hxv := hE.ev x hx.1.1.1
      split at hc
      · split at hc
        · rename_i el hu
          simp only [Option.map_eq_some_iff] at hc
          obtain ⟨k, hk, rfl⟩ := hc
          simp only [ev, Option.map_eq_some_iff] at he
          obtain ⟨r', hr, he⟩ := he
          cases he
          exact (slice_sound h hu hk hxv hlo hhi hr).next
        · rename_i hu
          cases hc
          simp only [ev, Option.map_eq_some_iff] at he
          obtain ⟨r', hr, he⟩ := he
          cases he
          exact (sliceStr_sound h hu hxv hlo hhi hr).next
        · rename_i n el hu
          simp only [Option.map_eq_some_iff] at hc
          obtain ⟨k, hk, rfl⟩ := hc
          simp only [ev, Option.map_eq_some_iff] at he
          obtain ⟨r', hr, he⟩ := he
          cases he
          exact (sliceArr_sound h hu hk hxv hlo hhi hr).next
        · cases hc
      · rename_i m
        split at hc
        · rename_i el hh hu
          simp only [Option.map_eq_some_iff] at hc
          obtain ⟨k, hk, rfl⟩ := hc
          simp only [ev, Option.map_eq_some_iff] at he
          obtain ⟨r', hr, he⟩ := he
          cases he
          exact (slice3_sound h hu hk hxv hlo (hE.ev hh hx.1.2) (hE.ev m hx.2) hr).next
        · cases hc
    · cases hc
  case fieldAddr T x i =>
    split at hc
    · rename_i hx
      split at hc
      · rename_i fs hu
        simp only [Option.bind_eq_some_iff] at hc
        obtain ⟨f, hf, hc⟩ := hc
        split at hc
        · rename_i n hn
          cases hc
          simp only [ev, Option.map_eq_some_iff] at he
          obtain ⟨r', hr, he⟩ := he
          cases he
          exact (faddr_sound h hu hf hn (hE.ev x hx) hr).next
        · cases hc
      · cases hc
    · cases hc
  case field T x i =>
    split at hc
    · rename_i hx
      split at hc
      · rename_i fs hu
        simp only [Option.bind_eq_some_iff, Option.map_eq_some_iff] at hc
        obtain ⟨f, hf, ag, hag, n, hn, rfl⟩ := hc
        simp only [ev] at he
        split at he
        · rename_i cells hcells
          simp only [Option.map_eq_some_iff] at he
          obtain ⟨r', hr, he⟩ := he
          cases he
          have hxv := hE.ev x hx
          rw [hcells] at hxv
          exact (field_sound h hu hf hag hn hxv hr).next
        · cases he
      · cases hc
    · cases hc
  case indexAddr T x i =>
    split at hc
    · rename_i hx
      simp only [Bool.and_eq_true] at hx
      split at hc
      · rename_i el hu
        simp only [Option.map_eq_some_iff] at hc
        obtain ⟨k, hk, rfl⟩ := hc
        simp only [ev, Option.map_eq_some_iff] at he
        obtain ⟨r', hr, he⟩ := he
        cases he
        exact (iaddr_sound h hu hk (hE.ev x hx.1) (hE.ev i hx.2) hr).next
      · rename_i n el hu
        simp only [Option.map_eq_some_iff] at hc
        obtain ⟨k, hk, rfl⟩ := hc
        simp only [ev, Option.map_eq_some_iff] at he
        obtain ⟨r', hr, he⟩ := he
        cases he
        exact (iaddrArr_sound h hu hk (hE.ev x hx.1) (hE.ev i hx.2) hr).next
      · cases hc
    · cases hc
  case index T x i =>
    split at hc
    · rename_i hx
      simp only [Bool.and_eq_true] at hx
      split at hc
      · rename_i hu
        cases hc
        simp only [ev, Option.map_eq_some_iff] at he
        obtain ⟨r', hr, he⟩ := he
        cases he
        exact (idx_sound h hu (hE.ev x hx.1) (hE.ev i hx.2) hr).next
      · rename_i n el hu
        simp only [Option.bind_eq_some_iff, Option.map_eq_some_iff] at hc
        obtain ⟨ag, hag, k, hk, rfl⟩ := hc
        simp only [ev] at he
        split at he
        · rename_i cells hcells
          simp only [Option.bind_eq_some_iff, Option.map_eq_some_iff] at he
          obtain ⟨j, hj, r', hr, he⟩ := he
          cases he
          have hxv := hE.ev x hx.1
          rw [hcells] at hxv
          exact (idxArr_sound h hu hag hk hxv (hE.ev i hx.2) hj hr).next
        · cases he
      · cases hc
    · cases hc
  case extract x i =>
    split at hc
    · rename_i hx
      cases hc
      simp only [ev] at he
      split at he
      · rename_i xs hxs
        simp only [Option.map_eq_some_iff] at he
        obtain ⟨r', hr, he⟩ := he
        cases he
        have hxv := hE.ev x hx
        rw [hxs] at hxv
        exact (extract_sound h hxv hr).next
      · cases he
    · cases hc
  case call c =>
    split at hc
    · rename_i hargs
      split at hc
      · rename_i b hb
        unfold compileB at hc
        split at hc
        · rename_i x T ha ht
          have ha' := arr1 ha
          have ht' := arr1 ht
          split at hc
          · rename_i hx
            split at hc
            · rename_i hst
              cases hc
              simp only [ev, Option.map_eq_some_iff] at he
              obtain ⟨r', hr, he⟩ := he
              cases he
              exact builtin_next rfl rfl hb (fun _ => by rw [ha', ht']; simp only [List.map_toArray, List.map_cons, List.map_nil]; rfl) (len_str_sound (t := type) (T := T) h (isStr_eq hst) (hE.ev x hx) hr)
            · split at hc
              · rename_i el hel
                cases hc
                simp only [ev, Option.map_eq_some_iff] at he
                obtain ⟨r', hr, he⟩ := he
                cases he
                exact builtin_next rfl rfl hb (fun _ => by rw [ha', ht']; simp only [List.map_toArray, List.map_cons, List.map_nil]; rfl) (len_sl_sound (t := type) (T := T) h (sl?_eq hel) (hE.ev x hx) hr)
              · cases hc
          · cases hc
        · rename_i x y ha
          have ha' := arr2 ha
          split at hc
          · rename_i hx
            simp only [Bool.and_eq_true] at hx
            cases hc
            simp only [ev, Option.map_eq_some_iff] at he
            obtain ⟨r', hr, he⟩ := he
            cases he
            exact builtin_next rfl rfl hb (fun _ => by rw [ha']; simp only [List.map_toArray, List.map_cons, List.map_nil]; rfl) (min_sound (tys := c.argTypes) (t := type) h (hE.ev x hx.1) (hE.ev y hx.2) hr)
          · cases hc
        · rename_i x y ha
          have ha' := arr2 ha
          split at hc
          · rename_i hx
            simp only [Bool.and_eq_true] at hx
            cases hc
            simp only [ev, Option.map_eq_some_iff] at he
            obtain ⟨r', hr, he⟩ := he
            cases he
            exact builtin_next rfl rfl hb (fun _ => by rw [ha']; simp only [List.map_toArray, List.map_cons, List.map_nil]; rfl) (max_sound (tys := c.argTypes) (t := type) h (hE.ev x hx.1) (hE.ev y hx.2) hr)
          · cases hc
        · rename_i x y T X ha ht
          have ha' := arr2 ha
          have ht' := arr2 ht
          split at hc
          · rename_i hx
            simp only [Bool.and_eq_true, Bool.or_eq_true] at hx
            simp only [Option.bind_eq_some_iff] at hc
            obtain ⟨el, hel, k, hk, b', hb', z, hz, hc⟩ := hc
            split at hc
            · rename_i hzk
              cases hc
              simp only [ev] at he
              obtain ⟨d, hd, hni⟩ : ∃ d, P.underlying X = some d ∧ notInt d := by
                rcases hx.2 with hX | hX
                · exact ⟨_, isStr_eq hX, .inl rfl⟩
                · obtain ⟨e', he'⟩ := Option.isSome_iff_exists.1 hX
                  exact ⟨_, sl?_eq he', .inr ⟨e', rfl⟩⟩
              exact builtin_next rfl rfl hb (fun _ => by rw [ha', ht']; simp only [List.map_toArray, List.map_cons, List.map_nil]; rfl) (append_sound (t := type) (T := T) (X := X) h (sl?_eq hel) hd hni hk hb' hz hzk (hE.ev x hx.1.1) (hE.ev y hx.1.2) he)
            · cases hc
          · split at hc
            · rename_i hx
              simp only [Bool.and_eq_true] at hx
              simp only [Option.bind_eq_some_iff] at hc
              obtain ⟨el, hel, k, hk, b', hb', z, hz, hc⟩ := hc
              split at hc
              · rename_i hzk
                cases hc
                simp only [ev] at he
                obtain ⟨kk, hd⟩ := isInt_eq hx.2
                exact builtin_next rfl rfl hb (fun _ => by rw [ha', ht']; simp only [List.map_toArray, List.map_cons, List.map_nil]; rfl) (appendZ_sound (t := type) (T := T) (X := X) h (sl?_eq hel) hd hk hb' hz hzk.1 hzk.2.1 hzk.2.2 (hE.ev x hx.1.1) (hE.ev y hx.1.2) he)
              · cases hc
            · cases hc
        · rename_i x y T X ha ht
          have ha' := arr2 ha
          have ht' := arr2 ht
          split at hc
          · rename_i hx
            simp only [Bool.and_eq_true] at hx
            simp only [Option.bind_eq_some_iff] at hc
            obtain ⟨el, hel, k, hk, hc⟩ := hc
            cases hc
            simp only [ev] at he
            exact builtin_next rfl rfl hb (fun _ => by rw [ha', ht']; simp only [List.map_toArray, List.map_cons, List.map_nil]; rfl) (copy_sound (t := type) (T := T) (X := X) h (sl?_eq hel) hk (hE.ev x hx.1) (hE.ev y hx.2) he)
          · cases hc
        · cases hc
      · split at hc
        · cases hc; simp [ev] at he
        · cases hc
      · split at hc
        · cases hc; simp [ev] at he
        · cases hc
      · cases hc
    · cases hc
  all_goals cases hc

theorem op_sound {o : Oper} {ao : AOp} {e : Env} {a : Act} {r : AV} {S' : St} (h : SRel W0 ρ S w) (hE : ERel ρ S w e a) (hc : compileOp P o.op = some ao) (he : ev ao e S = some (r, S')) :
    Fine P W0 ρ S w (execOp a.eval o) r S' :=
  op_sound1 h hE (compileOp_eq hc (by rintro rfl; cases he)) he

end
end Go.Proofs.YtnfiihdebonadaaGreatDoor.Abs
namespace Go.Proofs.YtnfiihdebonadaaGreatDoor.Abs

structure AOper where
  dst : Option Nat
  op : AOp
  guard : Option (Nat × Bool)

inductive AExit where
  | normal
  | exit (id : Nat)
  | ret

def AExit.toExit : AExit → Exit
  | .normal => .normal
  | .exit id => .exit id
  | .ret => .ret

/-- Arguments that are told. -/
def ARel (ρ : Ghost) (S : St) (w : World) (args : List AV) (vs : Array Value) : Prop :=
  args.length = vs.size ∧ ∀ j x, args[j]? = some x → VRel ρ S w x (vs.getD j undef)

/-- A call, told. -/
def CallsA (P : Program) (W0 : World) (f : FuncId) (args : List AV) (S : St) (Q : AV → St → Prop) : Prop :=
  ∀ (ρ : Ghost) (w : World) (vs : Array Value), SRel W0 ρ S w → ARel ρ S w args vs →
    Calls P f vs w fun e w' => ∃ r v ρ' S', e = .returned v ∧ VRel ρ' S' w' r v ∧ SRel W0 ρ' S' w' ∧ Ext ρ S w ρ' S' w' ∧ Q r S'

theorem CallsA.mono {P : Program} {W0 : World} {f : FuncId} {args : List AV} {S : St} {Q Q' : AV → St → Prop} (h : CallsA P W0 f args S Q) (hq : ∀ r S', Q r S' → Q' r S') : CallsA P W0 f args S Q' :=
  fun ρ w vs h1 h2 => (h ρ w vs h1 h2).mono fun _ _ ⟨r, v, ρ', S', a, b, c, d, e⟩ => ⟨r, v, ρ', S', a, b, c, d, hq _ _ e⟩

def setD (e : Env) (d : Option Nat) (x : AV) : Env :=
  match d with
  | some d => e.set d x
  | none => e

def optK {α : Type} (x : Option α) (F : α → Prop) : Prop :=
  match x with
  | some a => F a
  | none => False

theorem optK_iff {α : Type} (x : Option α) (F : α → Prop) : optK x F ↔ ∃ a, x = some a ∧ F a := by cases x <;> simp [optK]

/-- A function value's function, what it is handed first, what it holds. -/
def cloOf : AV → Option (FuncId × List AV × List AV)
  | .clo (.func f) first captured => some (f, first, captured)
  | .val (.func (.func f) ⟨[]⟩ ⟨[]⟩) => some (f, [], [])
  | _ => none

def aop (P : Program) (W0 : World) (o : AOper) (K : Env → St → Prop) (e : Env) (S : St) : Prop :=
  match o.op with
  | .call f args => CallsA P W0 f (args.map (evA e)) S fun r S' => K (setD e o.dst r) S'
  | .callv fv args => optK (cloOf (evA e fv)) fun p => callable P p.1 = true ∧ CallsA P W0 p.1 (p.2.1 ++ args.map (evA e) ++ p.2.2) S fun r S' => K (setD e o.dst r) S'
  | ao => optK (ev ao e S) fun p => K (setD e o.dst p.1) p.2

/-- Does a guard let its operation be done? What was not done yields no truth. -/
def gdec (v : AV) (b : Bool) : Option Bool :=
  match v with
  | .bool c => some (c == b)
  | .tup _ => some false
  | _ => none

def awpOps (P : Program) (W0 : World) : List AOper → (Env → St → Prop) → Env → St → Prop
  | [], K, e, S => K e S
  | o :: rest, K, e, S =>
    match o.guard with
    | none => aop P W0 o (awpOps P W0 rest K) e S
    | some (t, b) =>
      match gdec (e t) b with
      | some true => aop P W0 o (awpOps P W0 rest K) e S
      | some false => awpOps P W0 rest K (setD e o.dst (.tup [])) S
      | none => False

def thenA (K : Env → St → Prop) (Q : AExit → Env → St → Prop) : AExit → Env → St → Prop
  | .normal, e, S => K e S
  | x, e, S => Q x e S

def inBlockA (id : Nat) (Q : AExit → Env → St → Prop) : AExit → Env → St → Prop
  | .exit i, e, S => if i = id then Q .normal e S else Q (.exit i) e S
  | x, e, S => Q x e S

/-- From Go's code. -/
def guardOf (n : Nat) (ops : Array Oper) (o : Oper) : Option (Option (Nat × Bool)) :=
  match o.guard with
  | none => some none
  | some (j, b) => ((ops[j]?).bind (·.dst)).bind fun t => if t < n then some (some (t, b)) else none

def dstOk (n : Nat) (d : Option Nat) : Bool := match d with | some d => decide (d < n) | none => true

def compileOper (P : Program) (n : Nat) (ops : Array Oper) (o : Oper) : Option AOper :=
  (compileOp P o.op).bind fun ao => (guardOf n ops o).bind fun g => if dstOk n o.dst = true then some ⟨o.dst, ao, g⟩ else none

theorem compileOper_eq {P : Program} {n : Nat} {ops : Array Oper} {o : Oper} {oa : AOper} (h : compileOper P n ops o = some oa) : oa.dst = o.dst ∧ compileOp P o.op = some oa.op ∧ guardOf n ops o = some oa.guard ∧ dstOk n o.dst = true := by
  simp only [compileOper, Option.bind_eq_some_iff] at h
  obtain ⟨ao, hao, g, hg, h⟩ := h
  split at h
  · rename_i hd; cases h; exact ⟨rfl, hao, hg, hd⟩
  · cases h

/-- All that holds between the told and the true state. -/
structure Rel (W0 : World) (ρ0 : Ghost) (S0 : St) (w0 : World) (n : Nat) (ρ : Ghost) (S : St) (w : World) (e : Env) (a : Act) : Prop where
  s : SRel W0 ρ S w
  env : ERel ρ S w e a
  size : a.tmps.size = n
  defers : a.defers = []
  ext : Ext ρ0 S0 w0 ρ S w

theorem Rel.put {W0 : World} {ρ0 : Ghost} {S0 : St} {w0 : World} {n : Nat} {ρ : Ghost} {S : St} {w : World} {e : Env} {a : Act} (h : Rel W0 ρ0 S0 w0 n ρ S w e a) {ρ' : Ghost} {S' : St} {w' : World} {d : Option Nat} {r : AV} {v : Value}
    (hs : SRel W0 ρ' S' w') (he : Ext ρ S w ρ' S' w') (hv : VRel ρ' S' w' r v) (hd : dstOk n d = true) : Rel W0 ρ0 S0 w0 n ρ' S' w' (setD e d r) (a.put d v) := by
  cases d with
  | none => exact ⟨hs, h.env.ext he, h.size, h.defers, h.ext.trans he⟩
  | some d => exact ⟨hs, (h.env.ext he).put d (by rw [h.size]; simpa [dstOk] using hd) hv, by simp [Act.put, h.size], h.defers, h.ext.trans he⟩

def liftQ (W0 : World) (ρ0 : Ghost) (S0 : St) (w0 : World) (n : Nat) (Q : AExit → Env → St → Prop) : Exit → Act → World → Prop := fun ex a w =>
  ∃ ax e S ρ, ex = ax.toExit ∧ Q ax e S ∧ Rel W0 ρ0 S0 w0 n ρ S w e a

theorem callFunc_run {P : Program} {f : FuncId} {vs : Array Value} {w : World} (h : callable P f = true) : (callFunc f vs).run P w = .ok (.enter f vs) w := by
  unfold callable at h
  split at h
  · rename_i fn hf
    simp only [Bool.and_eq_true, Bool.not_eq_true'] at h
    obtain ⟨h1, h2⟩ := h
    have hn : fn.body.isNone = false := by cases hb : fn.body <;> simp_all
    simp only [callFunc, Sem.run_bind, run_program, Result.andThen_ok, hf, h2, hn, Bool.false_eq_true, if_false, Sem.run_pure]
  · cases h

section
variable {P : Program} {W0 : World} {ρ0 : Ghost} {S0 : St} {w0 : World} {n : Nat}

theorem args_sound {ρ : Ghost} {S : St} {w : World} {e : Env} {a : Act} (hE : ERel ρ S w e a) {l : Array Operand} (hl : l.toList.all okOpd = true) : ARel ρ S w (l.toList.map (evA e)) (l.map a.eval) := by
  refine ⟨by simp, fun j x hx => ?_⟩
  rw [List.getElem?_map, Array.getElem?_toList] at hx
  cases hj : l[j]? with
  | none => simp [hj] at hx
  | some y =>
    simp only [hj, Option.map_some, Option.some.injEq] at hx
    subst hx
    have : (l.map a.eval).getD j Go.undef = a.eval y := by simp [hj]
    rw [this]
    exact hE.ev y (List.all_eq_true.1 hl y (by simpa using Array.mem_of_getElem? hj))

theorem ARel.app {ρ : Ghost} {S : St} {w : World} {xs ys : List AV} {a b : Array Value} (h : ARel ρ S w xs a) (k : ARel ρ S w ys b) : ARel ρ S w (xs ++ ys) (a ++ b) := by
  refine ⟨by simp [h.1, k.1], fun j x hx => ?_⟩
  have hlt := (List.getElem?_eq_some_iff.1 hx).1
  simp at hlt
  have h1 := h.1
  have k1 := k.1
  by_cases hj : j < a.size
  · rw [List.getElem?_append_left (by omega)] at hx
    have : (a ++ b).getD j Go.undef = a.getD j Go.undef := by simp [Array.getElem?_append, hj]
    rw [this]; exact h.2 j x hx
  · rw [List.getElem?_append_right (by omega)] at hx
    have : (a ++ b).getD j Go.undef = b.getD (j - a.size) Go.undef := by simp [Array.getElem?_append, hj]
    rw [this, ← h1]; exact k.2 _ x hx

theorem compileOp_call {op : Op} {f : FuncId} {args : List Operand} (h0 : compileOp P op = some (.call f args)) : ∃ c, op = .call c ∧ c.callee = .value (.func f) ∧ callable P f = true ∧ args = c.args.toList ∧ c.args.toList.all okOpd = true := by
  have h := compileOp_eq h0 (by simp)
  cases op
  case call c =>
    simp only [compileOp1] at h
    split at h
    · rename_i hargs
      split at h
      · rename_i b hb
        exfalso
        unfold compileB at h
        repeat' split at h
        all_goals simp [Option.bind_eq_some_iff] at h
      · rename_i g hg
        split at h
        · rename_i hcall; cases h; exact ⟨c, rfl, hg, hcall, rfl, hargs⟩
        · cases h
      · split at h <;> cases h
      · cases h
    · cases h
  case next x st =>
    cases st with
    | false => cases h
    | true =>
      simp only [compileOp1] at h
      split at h <;> cases h
  all_goals
    exfalso
    simp only [compileOp1] at h
    (repeat' split at h) <;> first | (cases h; done) | simp [Option.bind_eq_some_iff] at h
  obtain ⟨fl, _, h⟩ := h
  split at h <;> cases h

theorem compileOp_callv {op : Op} {x : Operand} {args : List Operand} (h0 : compileOp P op = some (.callv x args)) : ∃ c, op = .call c ∧ c.callee = .value x ∧ okOpd x = true ∧ args = c.args.toList ∧ c.args.toList.all okOpd = true := by
  have h := compileOp_eq h0 (by simp)
  cases op
  case call c =>
    simp only [compileOp1] at h
    split at h
    · rename_i hargs
      split at h
      · rename_i b hb
        exfalso
        unfold compileB at h
        repeat' split at h
        all_goals simp [Option.bind_eq_some_iff] at h
      · split at h <;> cases h
      · rename_i g _ hg
        split at h
        · rename_i hcall; cases h; exact ⟨c, rfl, hg, hcall, rfl, hargs⟩
        · cases h
      · cases h
    · cases h
  case next x st =>
    cases st with
    | false => cases h
    | true =>
      simp only [compileOp1] at h
      split at h <;> cases h
  all_goals
    exfalso
    simp only [compileOp1] at h
    (repeat' split at h) <;> first | (cases h; done) | simp [Option.bind_eq_some_iff] at h
  obtain ⟨fl, _, h⟩ := h
  split at h <;> cases h

/-- One operation. -/
theorem aop_sound {ops : Array Oper} {o : Oper} {oa : AOper} {K : Env → St → Prop} {K' : Act → World → Prop} {Q' : Exit → Act → World → Prop} (hc : compileOper P n ops o = some oa) {ρ : Ghost} {S : St} {w : World} {e : Env} {a : Act}
    (h : Rel W0 ρ0 S0 w0 n ρ S w e a) (hk : ∀ ρ S w e a, Rel W0 ρ0 S0 w0 n ρ S w e a → K e S → K' a w) (hw : aop P W0 oa K e S) : o.wp P a w K' Q' := by
  obtain ⟨hd, hao, _, hdst⟩ := compileOper_eq hc
  have gen : (∃ p, ev oa.op e S = some p ∧ K (setD e o.dst p.1) p.2) → o.wp P a w K' Q' := by
    rintro ⟨⟨r, S'⟩, hev, hK⟩
    obtain ⟨nx, v, w', ρ', g1, g2, g3, g4, g5⟩ := op_sound h.s h.env hao hev
    have hR := h.put (d := o.dst) g4 g5 g3 hdst
    unfold Oper.wp
    rw [g1]
    rcases g2 with rfl | ⟨rfl, rfl⟩
    · exact hk _ _ _ _ _ hR hK
    · exact hk _ _ _ _ _ hR hK
  have callg : ∀ {f : FuncId} {args : List AV} {vs : Array Value}, (execOp a.eval o).run P w = .ok (.enter f vs) w → ARel ρ S w args vs → CallsA P W0 f args S (fun r S' => K (setD e o.dst r) S') → o.wp P a w K' Q' := by
    intro f args vs hrun hargs hcall
    unfold Oper.wp
    rw [hrun]
    show Calls P f vs w _
    refine (hcall ρ w vs h.s hargs).mono ?_
    rintro en w' ⟨r, v, ρ', S', rfl, g2, g3, g4, g5⟩
    exact hk _ _ _ _ _ (h.put (d := o.dst) g3 g4 g2 hdst) g5
  unfold aop at hw
  rw [hd] at hw
  split at hw
  · rename_i f args hop
    rw [hop] at hao
    obtain ⟨c, h1, h2, h3, rfl, h5⟩ := compileOp_call hao
    refine callg (f := f) (vs := c.args.map a.eval) ?_ (args_sound h.env h5) hw
    have e1 : execOp a.eval o = callFunc f (c.args.map a.eval) := by
      unfold execOp
      simp only [h1, resolve, h2, Deferred.ofValue, Act.eval, pure_bind, invoke]
      simp
    rw [e1]; exact callFunc_run h3
  · rename_i fv args hop
    rw [hop] at hao
    obtain ⟨c, h1, h2, h3, rfl, h5⟩ := compileOp_callv hao
    rw [optK_iff] at hw
    obtain ⟨⟨f, first, captured⟩, hclo, hcall, hw⟩ := hw
    have hfv := h.env.ev fv h3
    have hargs := args_sound h.env h5
    obtain ⟨fs, cs, hval, hf1, hc1⟩ : ∃ fs cs, a.eval fv = .func (.func f) fs cs ∧ ARel ρ S w first fs ∧ ARel ρ S w captured cs := by
      generalize hg : evA e fv = ax at hclo hfv
      generalize hv : a.eval fv = vx at hfv
      unfold cloOf at hclo
      split at hclo
      · cases hclo
        cases hfv with
        | clo fn first captured f' c' hf hc h1 h2 => exact ⟨f', c', rfl, ⟨hf, h1⟩, ⟨hc, h2⟩⟩
      · cases hclo
        cases hfv
        exact ⟨#[], #[], rfl, ⟨rfl, fun j x hx => by simp at hx⟩, ⟨rfl, fun j x hx => by simp at hx⟩⟩
      · cases hclo
    refine callg (f := f) (vs := fs ++ c.args.map a.eval ++ cs) ?_ ((hf1.app hargs).app hc1) hw
    have e1 : execOp a.eval o = callFunc f (fs ++ c.args.map a.eval ++ cs) := by
      unfold execOp
      simp only [h1, resolve, h2, Deferred.ofValue, hval, pure_bind, invoke]
    rw [e1]; exact callFunc_run hcall
  · rw [optK_iff] at hw
    exact gen hw

end
end Go.Proofs.YtnfiihdebonadaaGreatDoor.Abs
namespace Go.Proofs.YtnfiihdebonadaaGreatDoor.Abs
section
variable {P : Program} {W0 : World} {ρ0 : Ghost} {S0 : St} {w0 : World} {n : Nat}

theorem wanted_none {ops : Array Oper} {o : Oper} (h : guardOf n ops o = some none) (a : Act) : Region.wanted o (yielded ops a.tmps) = true := by
  unfold guardOf at h
  unfold Region.wanted
  cases hg : o.guard with
  | none => rfl
  | some p =>
    obtain ⟨j, b⟩ := p
    simp only [hg, Option.bind_eq_some_iff] at h
    obtain ⟨t, _, h⟩ := h
    split at h <;> cases h

theorem wanted_some {ops : Array Oper} {o : Oper} {t : Nat} {b c : Bool} (h : guardOf n ops o = some (some (t, b))) {ρ : Ghost} {S : St} {w : World} {e : Env} {a : Act} (hR : Rel W0 ρ0 S0 w0 n ρ S w e a) (he : gdec (e t) b = some c) :
    Region.wanted o (yielded ops a.tmps) = c := by
  unfold guardOf at h
  unfold Region.wanted
  cases hg : o.guard with
  | none => simp [hg] at h
  | some p =>
    obtain ⟨j, b'⟩ := p
    simp only [hg, Option.bind_eq_some_iff] at h
    obtain ⟨t', ht', h⟩ := h
    split at h
    · rename_i hlt
      cases h
      have hv := hR.env t
      have hsz : t < a.tmps.size := by rw [hR.size]; exact hlt
      have ht2 : (ops[j]?).bind (fun x => x.dst) = some t := by simpa [Option.bind_eq_some_iff] using ht'
      have hget : ∀ x, a.tmps.getD t Go.undef = x → a.tmps[t]? = some x := by
        intro x hx
        rw [Array.getElem?_eq_getElem hsz]
        simpa [hsz] using hx
      generalize hx : a.tmps.getD t Go.undef = x at hv
      have hget := hget x hx
      unfold gdec at he
      split at he
      · rename_i c' hc'
        rw [hc'] at hv
        cases hv
        cases he
        simp only [yielded, ht2, Option.bind_some, hget]
        cases c' <;> cases b <;> rfl
      · rename_i vs hc'
        rw [hc'] at hv
        cases hv
        cases he
        simp only [yielded, ht2, Option.bind_some, hget]
        rfl
      · cases he
    · cases h

theorem awpOps_sound {ops : Array Oper} {K : Env → St → Prop} {Q' : Exit → Act → World → Prop} (hk : ∀ ρ S w e a, Rel W0 ρ0 S0 w0 n ρ S w e a → K e S → Q' .normal a w) :
    ∀ (l : List Oper) (la : List AOper), l.mapM (compileOper P n ops) = some la → ∀ {ρ : Ghost} {S : St} {w : World} {e : Env} {a : Act}, Rel W0 ρ0 S0 w0 n ρ S w e a → awpOps P W0 la K e S → wpList P ops Q' l a w
  | [], la, hc, ρ, S, w, e, a, h, hw => by
    simp at hc; subst hc
    exact hk _ _ _ _ _ h hw
  | o :: l, la, hc, ρ, S, w, e, a, h, hw => by
    simp only [List.mapM_cons, Option.bind_eq_bind, Option.pure_def, Option.bind_eq_some_iff, Option.some.injEq] at hc
    obtain ⟨oa, hoa, la', hla, rfl⟩ := hc
    have ih := fun {ρ S w e a} => awpOps_sound hk l la' hla (ρ := ρ) (S := S) (w := w) (e := e) (a := a)
    obtain ⟨hd, hao, hg, hdst⟩ := compileOper_eq hoa
    simp only [awpOps] at hw
    unfold wpList
    split at hw
    · rename_i hgn
      rw [hgn] at hg
      rw [if_pos (wanted_none hg a)]
      exact .inl (aop_sound hoa h (fun _ _ _ _ _ hR hK => ih hR hK) hw)
    · rename_i t b hgs
      rw [hgs] at hg
      split at hw
      · rename_i hec
        rw [wanted_some hg h hec]
        exact .inl (aop_sound hoa h (fun _ _ _ _ _ hR hK => ih hR hK) hw)
      · rename_i hec
        rw [wanted_some hg h hec]
        rw [hd] at hw
        exact ih (h.put h.s (.refl _ _ _) (.tup [] #[] rfl (fun j x hx => by simp at hx)) hdst) hw
      · exact hw.elim

/-- A loop whose relation bears a bound on the rounds to come. -/
theorem wp_loop_rel {c : Code} {Q : Exit → Act → World → Prop} (J : Nat → Act → World → Prop) (round : ∀ n a w, J n a w → c.wp P (Exit.then (fun a' w' => ∃ m, m < n ∧ J m a' w') Q) a w) : ∀ n a w, J n a w → (Code.loop c).wp P Q a w := by
  intro n0 a0 w0' h0 b k cs
  have key : ∀ n a w, J n a w → ∃ e a' w', Q e a' w' ∧ Arrives P (lone (b.at a (.code c :: .inLoop c :: k)) cs w) b k cs e a' w' := by
    intro n
    induction n using Nat.strongRecOn with
    | _ n ih =>
      intro a w hJ
      obtain ⟨e, a₁, w₁, hq, harr⟩ := round n a w hJ b (.inLoop c :: k) cs
      cases e with
      | normal =>
        obtain ⟨m, hm, hJ₁⟩ := hq
        obtain ⟨e₂, a₂, w₂, hq₂, harr₂⟩ := ih m hm a₁ w₁ hJ₁
        exact ⟨e₂, a₂, w₂, hq₂, .of_steps (Steps.trans harr (.one step_inLoop)) harr₂⟩
      | exit id => exact ⟨_, a₁, w₁, hq, .pass (x := .inLoop c) rfl (fun _ _ => .inl (by simp)) harr⟩
      | goto l => exact ⟨_, a₁, w₁, hq, .pass (x := .inLoop c) rfl (fun _ _ => .inl (by simp)) harr⟩
      | ret => exact ⟨_, a₁, w₁, hq, .pass (x := .inLoop c) rfl (fun _ _ => .inl (by simp)) harr⟩
      | panic ch => exact ⟨_, a₁, w₁, hq, .pass (x := .inLoop c) rfl (fun _ _ => .inl (by simp)) harr⟩
      | outgrown => exact ⟨_, a₁, w₁, hq, .pass (x := .inLoop c) rfl (fun _ _ => .inl (by simp)) harr⟩
  obtain ⟨e, a', w', hq, harr⟩ := key n0 a0 w0' h0
  exact ⟨e, a', w', hq, .of_steps (.one step_loop) harr⟩

end
end Go.Proofs.YtnfiihdebonadaaGreatDoor.Abs
namespace Go.Proofs.YtnfiihdebonadaaGreatDoor.Abs

def opdSlots : Operand → List Nat
  | .tmp t => [t]
  | _ => []
def optSlots : Option Operand → List Nat
  | some x => opdSlots x
  | none => []
def AOp.slots : AOp → List Nat
  | .mv x | .box x | .load _ _ x | .nilchk x | .un _ x | .convI _ x | .convSS x | .convSB x | .convBS x | .convIS x | .rangeS x | .nextS x | .mkI _ x | .faddr _ x | .field _ _ _ x | .extract _ x | .lenS x | .lenL x => opdSlots x
  | .alloc _ => []
  | .bad => []
  | .pick a b c => opdSlots a ++ opdSlots b ++ opdSlots c
  | .build _ ps | .bslice _ _ ps => ps.flatMap fun q => opdSlots q.2.2
  | .store _ x y | .bin _ _ x y | .mkSl _ _ _ x y | .iaddr _ x y | .iaddrArr _ _ x y | .idx x y | .idxArr _ _ _ x y | .min x y | .max x y | .append _ _ x y | .appendZ _ _ _ x y | .copy _ x y => opdSlots x ++ opdSlots y
  | .mkF _ a b => a.flatMap opdSlots ++ b.flatMap opdSlots
  | .slice _ x lo hi | .sliceStr x lo hi | .sliceArr _ _ x lo hi => opdSlots x ++ optSlots lo ++ optSlots hi
  | .slice3 _ x lo hi mx => opdSlots x ++ optSlots lo ++ opdSlots hi ++ opdSlots mx
  | .call _ args => args.flatMap opdSlots
  | .callv f args => opdSlots f ++ args.flatMap opdSlots

theorem evA_congr {e e' : Env} {x : Operand} (h : ∀ t ∈ opdSlots x, e t = e' t) : evA e x = evA e' x := by
  cases x with
  | tmp t => exact h t (by simp [opdSlots])
  | _ => rfl
theorem evOpt_congr {e e' : Env} {x : Option Operand} (h : ∀ t ∈ optSlots x, e t = e' t) : evOpt e x = evOpt e' x := by
  cases x with
  | none => rfl
  | some x => simp only [evOpt]; rw [evA_congr h]
theorem evL_congr {e e' : Env} {l : List Operand} (h : ∀ t ∈ l.flatMap opdSlots, e t = e' t) : l.map (evA e) = l.map (evA e') := by
  apply List.map_congr_left
  intro x hx
  exact evA_congr fun t ht => h t (List.mem_flatMap.2 ⟨x, hx, ht⟩)
theorem evP_congr {e e' : Env} {l : List (Nat × Nat × Operand)} (h : ∀ t ∈ l.flatMap (fun q => opdSlots q.2.2), e t = e' t) : evParts e l = evParts e' l := by
  apply List.map_congr_left
  intro x hx
  rw [evA_congr fun t ht => h t (List.mem_flatMap.2 ⟨x, hx, ht⟩)]

theorem ev_congr {ao : AOp} {e e' : Env} (S : St) (h : ∀ t ∈ ao.slots, e t = e' t) : ev ao e S = ev ao e' S := by
  have one : ∀ {x : Operand}, (∀ t ∈ opdSlots x, t ∈ ao.slots) → evA e x = evA e' x := fun hx => evA_congr fun t ht => h t (hx t ht)
  have opt : ∀ {x : Option Operand}, (∀ t ∈ optSlots x, t ∈ ao.slots) → evOpt e x = evOpt e' x := fun hx => evOpt_congr fun t ht => h t (hx t ht)
  cases ao with
  | alloc z => rfl
  | call f args => rfl
  | bad => rfl
  | callv f args => rfl
  | build z ps => simp only [ev]; rw [evP_congr h]
  | bslice n z ps => simp only [ev]; rw [evP_congr h]
  | mkF fn a b =>
    simp only [ev]
    rw [evL_congr (fun t ht => h t (List.mem_append_left _ ht)), evL_congr (l := b) (fun t ht => h t (List.mem_append_right _ ht))]
  | pick a b c => simp only [ev]; rw [one (x := a) (fun t ht => by simp [AOp.slots, ht]), one (x := b) (fun t ht => by simp [AOp.slots, ht]), one (x := c) (fun t ht => by simp [AOp.slots, ht])]
  | mv x | box x | load _ _ x | nilchk x | un _ x | convI _ x | convSS x | convSB x | convBS x | convIS x | rangeS x | nextS x | mkI _ x | faddr _ x | field _ _ _ x | extract _ x | lenS x | lenL x =>
    simp only [ev]; rw [one (x := x) (fun t ht => ht)]
  | store _ x y | bin _ _ x y | mkSl _ _ _ x y | iaddr _ x y | iaddrArr _ _ x y | idx x y | idxArr _ _ _ x y | min x y | max x y | append _ _ x y | appendZ _ _ _ x y | copy _ x y =>
    simp only [ev]; rw [one (x := x) (fun t ht => List.mem_append_left _ ht), one (x := y) (fun t ht => List.mem_append_right _ ht)]
  | slice _ x lo hi | sliceStr x lo hi | sliceArr _ _ x lo hi =>
    simp only [ev]; rw [one (x := x) (fun t ht => by simp [AOp.slots, ht]), opt (x := lo) (fun t ht => by simp [AOp.slots, ht]), opt (x := hi) (fun t ht => by simp [AOp.slots, ht])]
  | slice3 _ x lo hi mx =>
    simp only [ev]; rw [one (x := x) (fun t ht => by simp [AOp.slots, ht]), opt (x := lo) (fun t ht => by simp [AOp.slots, ht]), one (x := hi) (fun t ht => by simp [AOp.slots, ht]), one (x := mx) (fun t ht => by simp [AOp.slots, ht])]

def AOper.reads (o : AOper) : List Nat := o.op.slots ++ match o.guard with | some (t, _) => [t] | none => []

theorem aop_congr {P : Program} {W0 : World} {o : AOper} {K K' : Env → St → Prop} {e e' : Env} {S : St} (h : ∀ t ∈ o.op.slots, e t = e' t) (hk : ∀ r S', K (setD e o.dst r) S' → K' (setD e' o.dst r) S') (hw : aop P W0 o K e S) : aop P W0 o K' e' S := by
  unfold aop at hw ⊢
  split at hw
  · rename_i f args hop
    rw [hop] at h
    rw [evL_congr h] at hw
    exact hw.mono hk
  · rename_i fv args hop
    rw [hop] at h
    rw [evA_congr (x := fv) (fun t ht => h t (List.mem_append_left _ ht)), evL_congr (fun t ht => h t (List.mem_append_right _ ht))] at hw
    rw [optK_iff] at hw ⊢
    obtain ⟨p, h1, h2, h3⟩ := hw
    exact ⟨p, h1, h2, h3.mono hk⟩
  · rename_i h1 h2
    rw [ev_congr S h] at hw
    rw [optK_iff] at hw
    have : optK (ev o.op e' S) fun p => K' (setD e' o.dst p.1) p.2 := by
      rw [optK_iff]
      obtain ⟨p, hp, hK⟩ := hw
      exact ⟨p, hp, hk _ _ hK⟩
    exact this

/-- A step that only looks would give what it gave. -/
def Still (o : AOper) (e : Env) (S : St) : Prop :=
  match o.guard with
  | none => ∃ r, ev o.op e S = some (r, S) ∧ ∀ d, o.dst = some d → e d = r
  | some (t, b) => ∃ c, gdec (e t) b = some c ∧ ((c = true ∧ ∃ r, ev o.op e S = some (r, S) ∧ ∀ d, o.dst = some d → e d = r) ∨ (c = false ∧ ∀ d, o.dst = some d → e d = .tup []))

/-- A step that only looks. -/
def pstep (o : AOper) (K : Env → Prop) (e : Env) (S : St) : Prop :=
  match o.guard with
  | none => optK (ev o.op e S) fun p => p.2 = S ∧ K (setD e o.dst p.1)
  | some (t, b) =>
    match gdec (e t) b with
    | some true => optK (ev o.op e S) fun p => p.2 = S ∧ K (setD e o.dst p.1)
    | some false => K (setD e o.dst (.tup []))
    | none => False

theorem setD_of {e : Env} {d : Option Nat} {r : AV} {t : Nat} (h : d ≠ some t) : setD e d r t = e t := by
  cases d with
  | none => rfl
  | some d => exact Env.set_ne _ _ _ fun h' => h (by rw [h'])
theorem setD_at {e : Env} {t : Nat} {r : AV} : setD e (some t) r t = r := Env.set_eq _ _ _

/-- What is told of a step stands while other slots are written. -/
theorem Still.set {o : AOper} {e : Env} {S : St} (h : Still o e S) {d : Option Nat} {x : AV} (h1 : ∀ t, d = some t → t ∉ o.reads) (h2 : ∀ t, d = some t → o.dst ≠ some t) : Still o (setD e d x) S := by
  have hr : ∀ t ∈ o.reads, setD e d x t = e t := fun t ht => setD_of fun hd => h1 t hd ht
  have hev : ev o.op (setD e d x) S = ev o.op e S := ev_congr S fun t ht => hr t (List.mem_append_left _ ht)
  have hdst : ∀ t, o.dst = some t → setD e d x t = e t := fun t ht => setD_of fun hd => h2 t hd ht
  unfold Still at h ⊢
  cases hg : o.guard with
  | none =>
    simp only [hg] at h ⊢
    obtain ⟨r, e1, e2⟩ := h
    exact ⟨r, by rw [hev, e1], fun t ht => by rw [hdst t ht]; exact e2 t ht⟩
  | some p =>
    obtain ⟨t, b⟩ := p
    simp only [hg] at h ⊢
    have ht : t ∈ o.reads := by unfold AOper.reads; rw [hg]; simp
    obtain ⟨c, e0, e1⟩ := h
    refine ⟨c, by rw [hr t ht]; exact e0, ?_⟩
    rcases e1 with ⟨c1, r, e2, e3⟩ | ⟨c1, e2⟩
    · exact .inl ⟨c1, r, by rw [hev, e2], fun t ht => by rw [hdst t ht]; exact e3 t ht⟩
    · exact .inr ⟨c1, fun t ht => by rw [hdst t ht]; exact e2 t ht⟩

theorem pstep_elim {o : AOper} {K : Env → Prop} {e : Env} {S : St} (hself : ∀ t, o.dst = some t → t ∉ o.reads) (h : pstep o K e S) : ∃ r, Still o (setD e o.dst r) S ∧ K (setD e o.dst r) := by
  have hr : ∀ r, ∀ t ∈ o.reads, setD e o.dst r t = e t := fun r t ht => setD_of fun hd => hself t hd ht
  have hev : ∀ r, ev o.op (setD e o.dst r) S = ev o.op e S := fun r => ev_congr S fun t ht => hr r t (List.mem_append_left _ ht)
  have hat : ∀ r d, o.dst = some d → setD e o.dst r d = r := fun r d hd => by rw [hd]; exact setD_at
  unfold pstep at h
  cases hg : o.guard with
  | none =>
    simp only [hg] at h
    rw [optK_iff] at h
    obtain ⟨⟨r, S'⟩, h1, h2, h3⟩ := h
    simp only at h2 h3
    subst h2
    refine ⟨r, ?_, h3⟩
    unfold Still
    simp only [hg]
    exact ⟨r, by rw [hev, h1], hat r⟩
  | some p =>
    obtain ⟨t, b⟩ := p
    have ht : t ∈ o.reads := by unfold AOper.reads; rw [hg]; simp
    simp only [hg] at h
    split at h
    · rename_i hc
      rw [optK_iff] at h
      obtain ⟨⟨r, S'⟩, h1, h2, h3⟩ := h
      simp only at h2 h3
      subst h2
      refine ⟨r, ?_, h3⟩
      unfold Still
      simp only [hg]
      exact ⟨true, by rw [hr r t ht]; exact hc, .inl ⟨rfl, r, by rw [hev, h1], hat r⟩⟩
    · rename_i hc
      refine ⟨.tup [], ?_, h⟩
      unfold Still
      simp only [hg]
      exact ⟨false, by rw [hr _ t ht]; exact hc, .inr ⟨rfl, hat _⟩⟩
    · exact h.elim

end Go.Proofs.YtnfiihdebonadaaGreatDoor.Abs
namespace Go.Proofs.YtnfiihdebonadaaGreatDoor.Abs

/-- In which order the operations of a region are told: some that only look, then one that acts (any that may come next), and so on. -/
inductive Plan where
  | done (ps : List Nat)
  | eff (ps : List Nat) (bs : List (Nat × Plan))

def predsOf (o : Oper) : List Nat := (o.after.toList.filter (Region.binds .any ·)).map (·.on)

def cloStep (ps : List Nat) (acc : List (List Nat)) : List Nat := ps ++ ps.flatMap fun p => acc.getD p []
def closures (ops : List Oper) : List (List Nat) := ops.foldl (fun acc o => acc ++ [(cloStep (predsOf o) acc).eraseDups]) []

section
variable (P : Program) (W0 : World) (la : List AOper) (clo : List (List Nat))

def psteps : List Nat → (Env → Prop) → Env → St → Prop
  | [], K, e, _ => K e
  | i :: is, K, e, S => match la[i]? with
    | some o => pstep o (fun e' => psteps is K e' S) e S
    | none => False

def stillL (e : Env) (S : St) : List Nat → Prop
  | [] => True
  | i :: is => (match la[i]? with | some o => Still o e S | none => True) ∧ stillL e S is

def effG (o : AOper) (K : Env → St → Prop) (e : Env) (S : St) : Prop :=
  match o.guard with
  | none => aop P W0 o K e S
  | some (t, b) =>
    match gdec (e t) b with
    | some true => aop P W0 o K e S
    | some false => K (setD e o.dst (.tup [])) S
    | none => False

def pinsAfter (i : Nat) (pins : List Nat) : List Nat := pins.filter fun j => !(clo.getD i []).contains j

mutual
def awpT : Plan → List Nat → (Env → St → Prop) → Env → St → Prop
  | .done ps, _, K, e, S => psteps la ps (fun e' => K e' S) e S
  | .eff ps bs, pins, K, e, S => psteps la ps (fun e' => awpB bs (pins ++ ps) K e' S) e S
def awpB : List (Nat × Plan) → List Nat → (Env → St → Prop) → Env → St → Prop
  | [], _, _, _, _ => True
  | b :: rest, pins, K, e, S =>
    (match la[b.1]? with
      | some o => effG P W0 o (fun e' S' => stillL la e' S' (pinsAfter clo b.1 pins) ∧ awpT b.2 (pinsAfter clo b.1 pins) K e' S') e S
      | none => False) ∧ awpB rest pins K e S
end
end

/-- What is asked of a plan. -/
def subB (a b : List Nat) : Bool := a.all fun x => b.contains x
def psOK (N : Nat) (preds : List (List Nat)) (E : List Nat) : List Nat → List Nat → Bool
  | [], _ => true
  | i :: is, D => decide (i < N) && !D.contains i && subB (preds.getD i []) D && !E.contains i && psOK N preds E is (D ++ [i])
mutual
def checkT (N : Nat) (preds : List (List Nat)) (E : List Nat) : Plan → List Nat → Bool
  | .done ps, D => psOK N preds E ps D && (List.range N).all fun i => (D ++ ps).contains i
  | .eff ps bs, D => psOK N preds E ps D && !bs.isEmpty && ((List.range N).all fun i => (D ++ ps).contains i || !subB (preds.getD i []) (D ++ ps) || (bs.map (·.1)).contains i) && checkB N preds E bs (D ++ ps)
def checkB (N : Nat) (preds : List (List Nat)) (E : List Nat) : List (Nat × Plan) → List Nat → Bool
  | [], _ => true
  | b :: rest, D => decide (b.1 < N) && !D.contains b.1 && subB (preds.getD b.1 []) D && E.contains b.1 && checkT N preds E b.2 (D ++ [b.1]) && checkB N preds E rest D
end

def cloOK (N : Nat) (preds clo : List (List Nat)) : Bool :=
  (List.range N).all fun i => ((preds.getD i []).all fun p => decide (p < i)) && ((clo.getD i []).all fun j => (preds.getD i []).contains j || (preds.getD i []).any fun p => (clo.getD p []).contains j)

def pairOK (N : Nat) (la : List AOper) (clo : List (List Nat)) (E : List Nat) : Bool :=
  (List.range N).all fun j => match la[j]? with
    | some oj => match oj.dst with
      | some t => (List.range N).all fun i => match la[i]? with
          | some oi => i == j && (E.contains j || !oi.reads.contains t) ||
              i != j && (if E.contains j then (!oi.reads.contains t || (clo.getD i []).contains j || (clo.getD j []).contains i) else (!oi.reads.contains t || (clo.getD i []).contains j) && oi.dst != some t)
          | none => true
      | none => true
    | none => true

/-- A drawn region, its plan and the operations that act. -/
structure DrawOK (P : Program) (n : Nat) (ops : Array Oper) (la : List AOper) (clo : List (List Nat)) (E : List Nat) (plan : Plan) : Prop where
  hla : ops.toList.mapM (compileOper P n ops) = some la
  hclo : cloOK ops.size (ops.toList.map predsOf) clo = true
  hpair : pairOK ops.size la clo E = true
  hplan : checkT ops.size (ops.toList.map predsOf) E plan [] = true

end Go.Proofs.YtnfiihdebonadaaGreatDoor.Abs
