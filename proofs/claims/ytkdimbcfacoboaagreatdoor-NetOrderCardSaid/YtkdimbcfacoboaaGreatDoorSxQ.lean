/- Code. -/
import Derived.Test.YtkdimbcfacoboaaGreatDoorSxPA
import Derived.LoopN
namespace Go.Sx
open Go

def Ex.out : Ex → Exit
  | .normal => .normal
  | .exit id => .exit id
  | .ret => .ret

section
variable {P : Program} {imT : TypeId → Bool} {c : Ctx} {I0 : Nat → Prop} {μ0 : Mu} {w0 : World} {nt : Nat} {res : List Nat}

theorem Inv.drew {env : Env} {h : Hp} {a : Act} {w : World} {I : Nat → Prop} {μ : Mu} (i : Inv c I0 μ0 w0 nt env h a w I μ) : Inv c I0 μ0 w0 nt env h a { w with drawn := w.drawn + 1 } I μ := by
  have g : Goes I I μ μ w { w with drawn := w.drawn + 1 } (look c.H c.nx h) (look c.H c.nx h) (fun _ => True) (fun _ => False) := (Goes.drew i.hr.lt).widen i.hr fun _ h => h.elim
  exact ⟨i.env.mono fun l v hl => g.vr i.hr hl, i.size, i.defers, i.goes.trans g fun id => by simp, i.none, i.glob.mono g.up (g.imm_block i.hr), i.keys⟩

theorem region_sound (hO : OSound P c.G c.O) (hm : P.follows .mixedOrders = true) {id : Nat} {ops : Array Oper} {draw : Bool} {x : LCtx} {after : List Nat} {n : Nat} {st st' : St} {e : Ex} {a : Act} {w : World} {I : Nat → Prop} {μ : Mu} {Q : Exit → Act → World → Prop}
    (hr : runC c n (cc P imT nt res x (.region id ops draw) after).1 st = some (e, st')) (hi : Inv c I0 μ0 w0 nt st.env st.h a w I μ) (hQ : ∀ a' w' I' μ', Inv c I0 μ0 w0 nt st'.env st'.h a' w' I' μ' → Q e.out a' w') :
    (Code.region id ops draw).wp P Q a w := by
  simp only [cc] at hr
  split at hr
  case isTrue => simp [runC] at hr
  rename_i hedge
  cases draw with
  | false =>
    simp only [Bool.false_eq_true, if_false, runC] at hr
    split at hr
    case h_2 => cases hr
    rename_i env h hrun
    simp only [Option.some.injEq, Prod.mk.injEq] at hr
    obtain ⟨rfl, rfl⟩ := hr
    refine wp_region ?_
    rw [List.range_eq_range']
    exact seq_ops (imT := imT) hO (fun a' w' I' μ' hi' => hQ a' w' I' μ' (hi'.keep after)) ops.size 0 _ _ a w I μ (by omega) (by simpa using hrun) hi
  | true =>
    simp only [if_true, runC] at hr
    split at hr
    case h_2 => cases hr
    rename_i tr env h hrun
    split at hr
    case isFalse => cases hr
    rename_i hind
    simp only [Option.some.injEq, Prod.mk.injEq] at hr
    obtain ⟨rfl, rfl⟩ := hr
    obtain ⟨E, Hs, R, a1, a2, a3, a4, a5, a6⟩ := runT_seq _ _ _ _ _ _ hrun
    simp only [List.length_map, Array.length_toList] at a3 a4 a5 a6
    have hreg : Reg P imT c nt ops E Hs R tr := by
      refine ⟨hO, fun i o ho => ?_, fun i o e ho he hb => ?_, fun i j hij hj hb => ?_⟩
      · have hlt := (Array.getElem?_eq_some_iff.1 ho).1
        have := a6 i hlt
        simp only [List.getElem_map, Array.getElem_toList] at this
        rw [(Array.getElem?_eq_some_iff.1 ho).2] at this
        exact this
      · simp only [Bool.true_and, Bool.not_eq_true', Bool.not_eq_false, Bool.and_eq_true] at hedge
        have h1 := Array.all_eq_true'.1 hedge.1 (o, i) (by
          rw [Array.mem_zipIdx_iff_getElem?]; exact ho)
        have h2 := Array.all_eq_true'.1 h1 e he
        rw [hb] at h2
        simpa using h2
      · simp only [Bool.true_and, Bool.not_eq_true', Bool.not_eq_false, Bool.and_eq_true] at hedge
        have hget : (Region.before ops).toList.getD j 0 = (Region.before ops).getD j 0 := by
          simp [List.getD_eq_getElem?_getD, Array.getD_eq_getD_getElem?]
        have hb' : ((Region.before ops).toList.getD j 0).testBit i = false := by rw [hget]; exact hb
        have hl1 : i < (ops.toList.map (coper P imT nt ops)).length := by simp; omega
        have hl2 : j < (ops.toList.map (coper P imT nt ops)).length := by simp; omega
        exact apartT_of (indepS_apart hedge.2 i j hij hl2 hb') (indepD_apart hind i j hij (by omega) hb') (tr_slots hrun i hl1) (tr_slots hrun j hl2)
    refine wp_region_any hm ?_
    have hi' := hi.drew
    rw [← a1, ← a2] at hi'
    refine draw_all (I0 := I0) (μ0 := μ0) (w0 := w0) hreg hi'.keys (fun a' w' I' μ' hi2 => hQ a' w' I' μ' ?_) ops.size _ a _ I μ (by simp) (by
        refine Nat.le_trans (List.length_filter_le _ _) ?_
        simp) ?_
    · rw [a3, a4] at hi2
      exact hi2.keep after
    · have hfalse : (fun k => (Array.replicate ops.size false).getD k false) = fun _ => false := funext fun k => by
        simp only [Array.getD_eq_getD_getElem?, Array.getElem?_replicate]
        split <;> rfl
      rw [hfalse]
      have he : ∀ k t, eD (E 0) R tr (fun _ => false) k t = get (E 0) t := by
        intro k
        induction k with
        | zero => intro t; rfl
        | succ k ih => intro t; rw [eD, if_neg (by simp)]; exact ih t
      have hl : ∀ k id, lD c.H c.nx Hs tr (fun _ => false) k id = look c.H c.nx (Hs 0) id := by
        intro k
        induction k with
        | zero => intro t; rfl
        | succ k ih => intro t; rw [lD, if_neg (by simp)]; exact ih t
      refine ⟨fun t => by rw [he]; exact hi'.env t, hi'.size, hi'.defers, ?_, fun id h1 _ => hi'.none id h1, hi'.glob, fun j o e hj => by cases hj⟩
      have : lD c.H c.nx Hs tr (fun _ => false) ops.size = look c.H c.nx (Hs 0) := funext fun id => hl _ id
      rw [this]
      exact hi'.goes.congrN fun id => by simp

theorem code_sound (hO : OSound P c.G c.O) (hm : P.follows .mixedOrders = true) (n : Nat) : ∀ (code : Code) (x : LCtx) (after : List Nat) (st st' : St) (e : Ex) (a : Act) (w : World) (I : Nat → Prop) (μ : Mu) (Q : Exit → Act → World → Prop),
    runC c n (cc P imT nt res x code after).1 st = some (e, st') → Inv c I0 μ0 w0 nt st.env st.h a w I μ → (∀ a' w' I' μ', Inv c I0 μ0 w0 nt st'.env st'.h a' w' I' μ' → Q e.out a' w') → code.wp P Q a w
  | .skip, x, after, st, st', e, a, w, I, μ, Q, hr, hi, hQ => by
    simp only [cc, runC, Option.some.injEq, Prod.mk.injEq] at hr
    obtain ⟨rfl, rfl⟩ := hr
    exact wp_skip (hQ a w I μ hi)
  | .region id ops draw, x, after, st, st', e, a, w, I, μ, Q, hr, hi, hQ => region_sound hO hm hr hi hQ
  | .seq p q, x, after, st, st', e, a, w, I, μ, Q, hr, hi, hQ => by
    simp only [cc, runC] at hr
    refine wp_seq ?_
    split at hr
    · rename_i st1 h1
      refine code_sound hO hm n p _ _ st st1 .normal a w I μ _ h1 hi fun a' w' I' μ' hi' => ?_
      exact code_sound hO hm n q _ _ st1 st' e a' w' I' μ' _ hr hi' hQ
    · rename_i hne
      cases hrun : runC c n (cc P imT nt res x p (cc P imT nt res x q after).2).1 st with
      | none => rw [hrun] at hr; cases hr
      | some y =>
        obtain ⟨e1, st1⟩ := y
        rw [hrun] at hr
        simp only [Option.some.injEq, Prod.mk.injEq] at hr
        obtain ⟨rfl, rfl⟩ := hr
        refine code_sound hO hm n p _ _ st st1 e1 a w I μ _ hrun hi fun a' w' I' μ' hi' => ?_
        have hn : e1 ≠ .normal := fun h => by subst h; exact hne st1 hrun
        cases e1 with
        | normal => exact absurd rfl hn
        | exit id => exact hQ a' w' I' μ' hi'
        | ret => exact hQ a' w' I' μ' hi'
  | .cond o p q, x, after, st, st', e, a, w, I, μ, Q, hr, hi, hQ => by
    simp only [cc, runC] at hr
    split at hr
    case h_2 => cases hr
    rename_i t ht
    have hv := hi.env.opds hi.glob o
    rw [ht] at hv
    refine wp_cond (t := t) (vr_s hv) ?_
    cases t with
    | true => simp only [if_true] at hr ⊢; exact code_sound hO hm n p _ _ st st' e a w I μ Q hr hi hQ
    | false => simp only [Bool.false_eq_true, if_false] at hr ⊢; exact code_sound hO hm n q _ _ st st' e a w I μ Q hr hi hQ
  | .block id p, x, after, st, st', e, a, w, I, μ, Q, hr, hi, hQ => by
    simp only [cc, runC] at hr
    refine wp_block ?_
    split at hr
    · rename_i j st1 h1
      refine code_sound hO hm n p _ _ st st1 (.exit j) a w I μ _ h1 hi fun a' w' I' μ' hi' => ?_
      simp only [Ex.out, Exit.inBlock]
      split at hr
      · rename_i hj
        simp only [Option.some.injEq, Prod.mk.injEq] at hr
        obtain ⟨rfl, rfl⟩ := hr
        rw [if_pos hj]
        exact hQ a' w' I' μ' hi'
      · rename_i hj
        simp only [Option.some.injEq, Prod.mk.injEq] at hr
        obtain ⟨rfl, rfl⟩ := hr
        rw [if_neg hj]
        exact hQ a' w' I' μ' hi'
    · rename_i hne
      cases hrun : runC c n (cc P imT nt res ((id, after) :: x) p after).1 st with
      | none => rw [hrun] at hr; cases hr
      | some y =>
        obtain ⟨e1, st1⟩ := y
        rw [hrun] at hr
        simp only [Option.some.injEq, Prod.mk.injEq] at hr
        obtain ⟨rfl, rfl⟩ := hr
        refine code_sound hO hm n p _ _ st st1 e1 a w I μ _ hrun hi fun a' w' I' μ' hi' => ?_
        cases e1 with
        | normal => exact hQ a' w' I' μ' hi'
        | exit j => exact absurd hrun (hne j st1)
        | ret => exact hQ a' w' I' μ' hi'
  | .loop p, x, after, st, st', e, a, w, I, μ, Q, hr, hi, hQ => by
    simp only [cc, runC] at hr
    obtain ⟨l, hl⟩ : ∃ l, l = (cc P imT nt res x p (cc P imT nt res x p []).2).2 := ⟨_, rfl⟩
    rw [← hl] at hr
    have key : ∀ (k : Nat) (st : St) (a : Act) (w : World) (I : Nat → Prop) (μ : Mu), iter (runC c n (cc P imT nt res x p l).1) k st = some (e, st') → Inv c I0 μ0 w0 nt st.env st.h a w I μ → Code.rounds P p Q k a w := by
      intro k
      induction k with
      | zero => intro st a w I μ hk; simp [iter] at hk
      | succ k ih =>
        intro st a w I μ hk hi
        simp only [iter] at hk
        rw [rounds_succ]
        split at hk
        · rename_i st1 h1
          exact code_sound hO hm n p _ _ st st1 .normal a w I μ _ h1 hi fun a' w' I' μ' hi' => ih st1 a' w' I' μ' hk hi'
        · rename_i hne
          cases hrun : runC c n (cc P imT nt res x p l).1 st with
          | none => rw [hrun] at hk; cases hk
          | some y =>
            obtain ⟨e1, st1⟩ := y
            rw [hrun] at hk
            simp only [Option.some.injEq, Prod.mk.injEq] at hk
            obtain ⟨rfl, rfl⟩ := hk
            refine code_sound hO hm n p _ _ st st1 e1 a w I μ _ hrun hi fun a' w' I' μ' hi' => ?_
            cases e1 with
            | normal => exact absurd hrun (hne st1)
            | exit j => exact hQ a' w' I' μ' hi'
            | ret => exact hQ a' w' I' μ' hi'
    exact wp_loop_rounds n (key n st a w I μ hr hi)
  | .exit id, x, after, st, st', e, a, w, I, μ, Q, hr, hi, hQ => by
    simp only [cc, runC, Option.some.injEq, Prod.mk.injEq] at hr
    obtain ⟨rfl, rfl⟩ := hr
    exact wp_exit (hQ a w I μ hi)
  | .ret, x, after, st, st', e, a, w, I, μ, Q, hr, hi, hQ => by
    simp only [cc, runC, Option.some.injEq, Prod.mk.injEq] at hr
    obtain ⟨rfl, rfl⟩ := hr
    exact wp_ret (hQ a w I μ hi)
  | .rangeFunc .., x, after, st, st', e, a, w, I, μ, Q, hr, hi, hQ => by simp [cc, runC] at hr
  | .scope .., x, after, st, st', e, a, w, I, μ, Q, hr, hi, hQ => by simp [cc, runC] at hr
  | .label .., x, after, st, st', e, a, w, I, μ, Q, hr, hi, hQ => by simp [cc, runC] at hr
  | .goto .., x, after, st, st', e, a, w, I, μ, Q, hr, hi, hQ => by simp [cc, runC] at hr
  | .refuse .., x, after, st, st', e, a, w, I, μ, Q, hr, hi, hQ => by simp [cc, runC] at hr

end
end Go.Sx
