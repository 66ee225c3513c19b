/- Any single operation. -/
import Derived.Test.YtkdimbcfacoboaaGreatDoorSxJ
namespace Go.Sx
open Go

def EnvR (I : Nat → Prop) (μ : Mu) (w : World) (env : Env) (a : Act) : Prop := ∀ t, VR I μ w (get env t) (a.tmps.getD t undef)

theorem EnvR.opds {c : Ctx} {env : Env} {a : Act} {I : Nat → Prop} {μ : Mu} {w : World} (h : EnvR I μ w env a) (hG : GOK c.G I w) : Opds c env a I μ w := fun x => by
  cases x with
  | tmp t => exact h t
  | const v => exact ofConst_vr v
  | global g =>
    simp only [copd, opd]
    split
    · rename_i cs hcs
      exact .p (hG g cs hcs)
    · exact .junk _
  | func f => exact .fn f [] [] #[] #[] rfl rfl (by simp) (by simp)

theorem callFunc_run {P : Program} {w : World} {f : FuncId} {fn : Func} {args : Array Value} (h1 : P.funcs[f]? = some fn) (h2 : fn.body.isSome = true) (h3 : fn.name ≠ "runtime.NumGoroutine") :
    (callFunc f args).run P w = .ok (.enter f args) w := by
  have h4 : fn.body.isNone = false := by cases h : fn.body <;> simp [h] at h2 ⊢
  simp [callFunc, h1, h3]
  intro hn
  rw [hn] at h4
  cases h4

theorem wp_of_does {P : Program} {o : Oper} {a : Act} {w : World} {I : Nat → Prop} {μ : Mu} {lk lk' : Nat → Option Obj} {T N : Nat → Prop} {lv : LV} (h : Does P (execOp a.eval o) w I μ lk lk' T N lv) {next : Act → World → Prop} {Q : Exit → Act → World → Prop}
    (hK : ∀ I' μ' w' v, Goes I I' μ μ' w w' lk lk' T N → VR I' μ' w' lv v → next (a.put o.dst v) w') : o.wp P a w next Q := by
  obtain ⟨I', μ', w', v, hr, hg, hv⟩ := h
  rcases hr with hr | ⟨hr, rfl⟩
  · unfold Oper.wp; rw [hr]; exact hK I' μ' w' v hg hv
  · unfold Oper.wp; rw [hr]; exact hK I' μ' w' undef hg hv

section
variable {P : Program} {imT : TypeId → Bool} {c : Ctx} {dr : Bool} {env : Env} {h : Hp} {a : Act} {w : World} {I : Nat → Prop} {μ : Mu} {r : Res} {T : Nat → Prop}
variable {dst : Option Tmp} {ty : TypeId} {pos : String} {after : Array Edge} {guard : Option (Nat × Bool)}

theorem op_range (hH : HR I μ w T (look c.H c.nx h)) (ho : Opds c env a I μ w) (hμ : ∀ id, newN c h r.h id → μ id = none) {t : TypeId} {x : Operand} (hr : evOp c dr env h (cop P imT (.range t x)) = some r) :
    DoesOp P c h a w I μ r T ⟨dst, .range t x, ty, pos, after, guard⟩ := by
  simp only [cop] at hr
  split at hr
  case h_2 => simp [evOp] at hr
  rename_i ht
  simp only [evOp] at hr
  split at hr
  case h_2 => cases hr
  rename_i b hx
  obtain rfl := Option.some.inj hr
  have hxv := ho x
  rw [hx] at hxv
  have he : a.eval x = .string b := vr_s hxv
  have hrun : (execOp a.eval ⟨dst, .range t x, ty, pos, after, guard⟩).run P w = .ok (.value (.pointer (some ⟨w.heap.size, 0, none⟩))) (w.alloc (.stringIter b 0)) := by
    simp [execOp, he, Instr.range, run_underlying ht]
  have g := Goes.makeO (w := w) (I := I) (μ := μ) (lk := look c.H c.nx h) (lk' := look c.H c.nx (push h (.iter b 0))) hH.lt (c.nx + h.new.length) (hμ _ (by rw [newN, push_N])) (.stringIter b 0) (.iter b 0)
    (fun j hj => by rw [look_push, if_neg hj]) (by rw [look_push, if_pos rfl]) ⟨w.heap.size, by simp, by show (w.heap.push _)[w.heap.size]? = _; simp⟩
  exact ⟨_, _, _, _, .inl hrun, (g.widen hH fun _ h => h.elim).congrN push_N, .ref _ 0 w.heap.size 0 0 (by simp)⟩

theorem op_next (hH : HR I μ w T (look c.H c.nx h)) (ho : Opds c env a I μ w) (hT : ∀ id ∈ r.tch, T id) {x : Operand} {str : Bool} (hr : evOp c dr env h (cop P imT (.next x str)) = some r) :
    DoesOp P c h a w I μ r T ⟨dst, .next x str, ty, pos, after, guard⟩ := by
  simp only [cop] at hr
  split at hr
  case isFalse => simp [evOp] at hr
  rename_i hs
  subst hs
  simp only [evOp] at hr
  split at hr
  case h_2 => cases hr
  rename_i id hx
  split at hr
  case h_2 => cases hr
  rename_i b q hl
  have hxv := ho x
  rw [hx] at hxv
  obtain ⟨bb, o', s', hm', he⟩ := vr_ref hxv
  split at hr
  · rename_i hq
    obtain rfl := Option.some.inj hr
    have hTid := hT id (by simp)
    obtain ⟨b', hm, hb⟩ := hH.obj id _ hTid hl
    rw [hm] at hm'
    obtain ⟨rfl, rfl, rfl⟩ : b' = bb ∧ 0 = o' ∧ 0 = s' := by simpa using hm'
    have hblt : b' < w.heap.size := (Array.getElem?_eq_some_iff.1 hb).1
    have hrun : (execOp a.eval ⟨dst, .next x true, ty, pos, after, guard⟩).run P w = .ok (.value (.tuple #[.bool true, .int .i64 q, .int .i32 (Utf8.decode b q).1])) (putB w b' (.stringIter b (q + (Utf8.decode b q).2))) := by
      simp [execOp, he, Instr.next, Go.getObj, Go.setObj, Sem.run, hb, hq, goInt, putB]
    have g := Goes.writeO (o' := .iter b (q + (Utf8.decode b q).2)) (lk' := look c.H c.nx (setObj c.nx h id (some (.iter b (q + (Utf8.decode b q).2))))) hH id hTid hl hm (.stringIter b (q + (Utf8.decode b q).2))
      (fun j hj => by rw [look_set (look_some hl), if_neg hj]) (by rw [look_set (look_some hl), if_pos rfl]) (fun _ => ⟨b', hm, putB_self _ _ _ hblt⟩)
    refine ⟨_, _, _, _, .inl hrun, (g.widen hH fun _ h => h ▸ hTid).congrN fun id' => ⟨fun h => by simp [newN, setObj_len] at h; omega, fun h => h.elim⟩, .tuple _ _ rfl fun j l u h1 h2 => ?_⟩
    match j with
    | 0 => obtain rfl := Option.some.inj h1; obtain rfl := Option.some.inj h2; exact .p (.s _)
    | 1 => obtain rfl := Option.some.inj h1; obtain rfl := Option.some.inj h2; exact .p (.s _)
    | 2 => obtain rfl := Option.some.inj h1; obtain rfl := Option.some.inj h2; exact .p (.s _)
    | j + 3 => cases h1
  · rename_i hq
    obtain rfl := Option.some.inj hr
    have hTid := hT id (by simp)
    obtain ⟨b', hm, hb⟩ := hH.obj id _ hTid hl
    rw [hm] at hm'
    obtain ⟨rfl, rfl, rfl⟩ : b' = bb ∧ 0 = o' ∧ 0 = s' := by simpa using hm'
    refine does_pure hH newN_self (v := .tuple #[.bool false]) (by simp [execOp, he, Instr.next, Go.getObj, Sem.run, hb, hq]) (.tuple _ _ rfl fun j l u h1 h2 => ?_)
    match j with
    | 0 => obtain rfl := Option.some.inj h1; obtain rfl := Option.some.inj h2; exact .p (.s _)
    | j + 1 => cases h1
end

theorem evOp_sound {P : Program} {imT : TypeId → Bool} {c : Ctx} {dr : Bool} {env : Env} {h : Hp} {a : Act} {w : World} {I : Nat → Prop} {μ : Mu} {r : Res} {o : Oper} (hO : OSound P c.G c.O) (hr : evOp c dr env h (cop P imT o.op) = some r)
    (hH : HR I μ w (fun id => dr = false ∨ id ∈ r.tch) (look c.H c.nx h)) (hμ : ∀ id, c.nx + h.new.length ≤ id → (dr = false ∨ id < c.nx + r.h.new.length) → μ id = none) (hG : GOK c.G I w) (henv : EnvR I μ w env a)
    {next : Act → World → Prop} {Q : Exit → Act → World → Prop}
    (hK : ∀ I' μ' w' v, Goes I I' μ μ' w w' (look c.H c.nx h) (look c.H c.nx r.h) (fun id => dr = false ∨ id ∈ r.tch) (newN c h r.h) → VR I' μ' w' r.v v → next (a.put o.dst v) w') : o.wp P a w next Q := by
  have ho := henv.opds (c := c) hG
  have hT : ∀ id ∈ r.tch, (dr = false ∨ id ∈ r.tch) := fun id h => .inr h
  have hμ' : ∀ id, newN c h r.h id → μ id = none := fun id hn => hμ id hn.1 (.inr hn.2)
  obtain ⟨dst, op, ty, pos, after, guard⟩ := o
  simp only at hr
  have calls : ∀ {f : FuncId} {args : List LV} {vs : Array Value}, callO c dr h f args = some r → vs.size = args.length → (∀ (j : Nat) (l : LV) (v : Value), args[j]? = some l → vs[j]? = some v → VR I μ w l v) →
      ((∃ fn, P.funcs[f]? = some fn ∧ fn.body.isSome = true ∧ fn.name ≠ "runtime.NumGoroutine") → (execOp a.eval ⟨dst, op, ty, pos, after, guard⟩).run P w = .ok (.enter f vs) w) → Oper.wp P ⟨dst, op, ty, pos, after, guard⟩ a w next Q := by
    intro f args vs hc hl hv hrun
    have hbody : ∃ fn, P.funcs[f]? = some fn ∧ fn.body.isSome = true ∧ fn.name ≠ "runtime.NumGoroutine" := by
      have hc' := hc
      unfold callO at hc'
      split at hc'
      · split at hc'
        case h_2 => cases hc'
        split at hc'
        case isFalse => cases hc'
        split at hc'
        case h_2 => cases hc'
        rename_i hcall
        exact (hO _ _ _ _ _ _ _ hcall).body
      · split at hc'
        case h_2 => cases hc'
        rename_i hcall
        exact (hO _ _ _ _ _ _ _ hcall).body
    unfold Oper.wp
    rw [hrun hbody, Oper.upon_enter]
    refine (callO_sound hO hc hH hμ hG hl hv).mono ?_
    rintro e w' ⟨v, I', μ', rfl, hg, hvr⟩
    exact hK I' μ' w' v hg hvr
  cases op with
  | move x => exact wp_of_does (op_move (ty := ty) (pos := pos) (after := after) (guard := guard) hH ho hr).1 hK
  | assign x => exact wp_of_does (op_move (ty := ty) (pos := pos) (after := after) (guard := guard) hH ho hr).2 hK
  | pick b x y => exact wp_of_does (op_pick hH ho hr) hK
  | alloc t => exact wp_of_does (op_alloc hH hμ' hr) hK
  | box t x => exact wp_of_does (op_box hH ho hμ' hr) hK
  | build t ps => exact wp_of_does (op_build hH ho hr) hK
  | buildSlice t n ps => exact wp_of_does (op_buildSlice hH ho hμ' hr) hK
  | load t x => exact wp_of_does (op_load hH ho hT hr) hK
  | store t x y => exact wp_of_does (op_store hH ho hT hr) hK
  | nilCheck x => exact wp_of_does (op_nilCheck hH ho hr) hK
  | binOp b t x y t' =>
    simp only [cop] at hr
    split at hr
    · split at hr
      · rename_i k hk
        exact wp_of_does (op_eq (neg := false) hH ho hk hr) hK
      · exact wp_of_does (op_bin hH ho hr) hK
    · split at hr
      · rename_i k hk
        exact wp_of_does (op_eq (neg := true) hH ho hk hr) hK
      · exact wp_of_does (op_bin hH ho hr) hK
    · exact wp_of_does (op_bin hH ho hr) hK
  | unOp u t x => exact wp_of_does (op_un hH ho hr) hK
  | convert s d x => exact wp_of_does (op_convert hH ho hμ' hT hr) hK
  | makeFunc fn fs cs =>
    cases fn with
    | func f => exact wp_of_does (op_makeFunc hH ho hr) hK
    | _ => simp [cop, evOp] at hr
  | makeSlice t x y => exact wp_of_does (op_makeSlice hH ho hμ' hr) hK
  | slice t x lo hi mx => exact wp_of_does (op_slice hH ho hT hr) hK
  | fieldAddr t x f => exact wp_of_does (op_fieldAddr hH ho hr) hK
  | field t x f => exact wp_of_does (op_field hH ho hr) hK
  | indexAddr t x i => exact wp_of_does (op_indexAddr hH ho hr) hK
  | index t x i => exact wp_of_does (op_index hH ho hr) hK
  | extract x i => exact wp_of_does (op_extract hH ho hr) hK
  | range t x => exact wp_of_does (op_range hH ho hμ' hr) hK
  | next x str => exact wp_of_does (op_next hH ho hT hr) hK
  | call cl =>
    obtain ⟨callee, args, ats⟩ := cl
    cases callee with
    | value x =>
      cases x with
      | func f =>
        simp only [cop] at hr
        split at hr
        case h_2 => simp [evOp] at hr
        rename_i fn hfn
        split at hr
        case isFalse => simp [evOp] at hr
        simp only [evOp] at hr
        obtain ⟨h1, h2⟩ := opds_map ho args
        rw [List.map_map] at hr
        exact calls hr h1 h2 fun ⟨fn, q1, q2, q3⟩ => by
          have := callFunc_run (w := w) (args := #[] ++ args.map a.eval ++ #[]) q1 q2 q3
          simp only [Array.append_empty, Array.empty_append] at this
          simp [execOp, resolve, Act.eval, Deferred.ofValue, invoke, this]
      | tmp t =>
        simp only [cop, evOp] at hr
        split at hr
        case h_2 => cases hr
        rename_i f fs cs hv
        have hx := ho (.tmp t)
        rw [hv] at hx
        obtain ⟨fa, ca, he, q1, q2, q3, q4⟩ := vr_fn hx
        obtain ⟨h1, h2⟩ := opds_map ho args
        rw [List.map_map] at hr
        refine calls (vs := fa ++ args.map a.eval ++ ca) hr ?_ ?_ fun ⟨fn, b1, b2, b3⟩ => ?_
        · rw [Array.size_append, Array.size_append, List.length_append, List.length_append, q1, q2, h1]; rfl
        · intro j l v hj hvj
          by_cases j1 : j < fs.length
          · rw [List.append_assoc, List.getElem?_append_left j1] at hj
            rw [Array.append_assoc, Array.getElem?_append_left (by omega)] at hvj
            exact q3 j l v hj hvj
          · rw [List.append_assoc, List.getElem?_append_right (by omega)] at hj
            rw [Array.append_assoc, Array.getElem?_append_right (by omega), q1] at hvj
            by_cases j2 : j - fs.length < args.size
            · rw [List.getElem?_append_left (by simpa using j2)] at hj
              rw [Array.getElem?_append_left (by simpa using j2)] at hvj
              exact h2 _ l v hj hvj
            · rw [List.getElem?_append_right (by simp; omega)] at hj
              rw [Array.getElem?_append_right (by simp; omega)] at hvj
              simp only [List.length_map, Array.length_toList] at hj
              simp only [Array.size_map] at hvj
              exact q4 _ l v hj hvj
        · simp [execOp, resolve, he, Deferred.ofValue, invoke, callFunc_run b1 b2 b3]
      | const v =>
        simp only [cop, evOp] at hr
        split at hr
        case h_2 => cases hr
        rename_i f fs cs hv
        have hx := ho (.const v)
        rw [hv] at hx
        exfalso
        simp only [copd, opd] at hv
        cases v <;> simp [ofConst] at hv
        split at hv <;> cases hv
      | global g =>
        simp only [cop, evOp] at hr
        split at hr
        case h_2 => cases hr
        rename_i f fs cs hv
        exfalso
        simp only [copd, opd] at hv
        split at hv <;> cases hv
    | invoke x m => simp [cop, evOp] at hr
    | builtin b =>
      cases b with
      | len =>
        simp only [cop] at hr
        split at hr
        · rename_i x hu ha
          have : args = #[x] := by rw [← Array.toArray_toList (xs := args), ha]
          subst this
          exact wp_of_does (op_len (str := true) hH ho hu hr) hK
        · rename_i e x hu ha
          have : args = #[x] := by rw [← Array.toArray_toList (xs := args), ha]
          subst this
          exact wp_of_does (op_len (str := false) hH ho ⟨e, hu⟩ hr) hK
        · rename_i n e x hu ha
          have : args = #[x] := by rw [← Array.toArray_toList (xs := args), ha]
          subst this
          simp only [evOp, Option.some.injEq] at hr
          subst hr
          refine wp_of_does (does_pure hH newN_self (v := .int .i64 n) ?_ (.p (.s _))) hK
          cases hq : ats[0]? with
          | none => rw [hq] at hu; cases hu
          | some t =>
            rw [hq] at hu
            simp only [Option.bind_some] at hu
            simp [execOp, resolve, invoke, builtin, Builtin.len_, hq, run_underlying hu, goInt]
        · simp [evOp] at hr
      | append =>
        simp only [cop] at hr
        split at hr
        case h_2 => simp [evOp] at hr
        rename_i t u x y hats ha
        have : args = #[x, y] := by rw [← Array.toArray_toList (xs := args), ha]
        subst this
        have : ats = #[t, u] := by rw [← Array.toArray_toList (xs := ats), hats]
        subst this
        split at hr
        case h_2 => simp [evOp] at hr
        rename_i e tu hu hu2
        split at hr
        case h_3 => simp [evOp] at hr
        · rename_i s b z e' hs hb hz
          split at hr
          case isTrue => simp [evOp] at hr
          rename_i hc
          simp only [ne_eq, not_or, Decidable.not_not] at hc
          exact wp_of_does (op_append hH ho hμ' hT hu (.inr ⟨_, hu2⟩) hs hb hz hc.1 hc.2 hr) hK
        · rename_i s b z hs hb hz
          split at hr
          case isTrue => simp [evOp] at hr
          rename_i hc
          simp only [ne_eq, not_or, Decidable.not_not] at hc
          exact wp_of_does (op_append hH ho hμ' hT hu (.inl hu2) hs hb hz hc.1 hc.2 hr) hK
      | copy =>
        simp only [cop] at hr
        split at hr
        case h_2 => simp [evOp] at hr
        rename_i e x y hu ha
        have : args = #[x, y] := by rw [← Array.toArray_toList (xs := args), ha]
        subst this
        split at hr
        case h_2 => simp [evOp] at hr
        rename_i s hs
        exact wp_of_does (op_copy hH ho hT hu hs hr) hK
      | clear =>
        simp only [cop] at hr
        split at hr
        case h_2 => simp [evOp] at hr
        rename_i e x hu ha
        have : args = #[x] := by rw [← Array.toArray_toList (xs := args), ha]
        subst this
        split at hr
        case h_2 => simp [evOp] at hr
        rename_i s z hs hz
        exact wp_of_does (op_clear hH ho hT hu hs hz hr) hK
      | min => exact wp_of_does (op_minmax (mx := false) hH ho hr) hK
      | max => exact wp_of_does (op_minmax (mx := true) hH ho hr) hK
      | _ => simp [cop, evOp] at hr
  | _ => simp [cop, evOp] at hr

end Go.Sx
