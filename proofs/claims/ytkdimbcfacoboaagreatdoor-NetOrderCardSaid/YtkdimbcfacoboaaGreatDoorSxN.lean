/- Operations one after another, as the text has them. -/
import Derived.Test.YtkdimbcfacoboaaGreatDoorSxM
namespace Go.Sx
open Go

theorem get_put {env : Env} {d : Option Nat} {v : LV} {t : Nat} : get (putD env d v) t = if d = some t then v else get env t := by
  cases d with
  | none => rfl
  | some d =>
    simp only [putD, get, Option.some.injEq]
    by_cases h : t = d
    · rw [if_pos h, if_pos h.symm]
    · rw [if_neg h, if_neg (fun e => h e.symm)]

theorem EnvR.put {I : Nat → Prop} {μ : Mu} {w : World} {env : Env} {a : Act} (h : EnvR I μ w env a) {d : Option Nat} {lv : LV} {v : Value} (hv : VR I μ w lv v) (hd : ∀ t, d = some t → t < a.tmps.size) : EnvR I μ w (putD env d lv) (a.put d v) := by
  intro t
  rw [get_put]
  cases d with
  | none => exact h t
  | some d =>
    simp only [Act.put, Option.some.injEq]
    by_cases e : d = t
    · subst e
      rw [if_pos rfl, Array.getD_eq_getD_getElem?, Array.getElem?_setIfInBounds_self_of_lt (hd d rfl)]
      exact hv
    · rw [if_neg e, Array.getD_eq_getD_getElem?, Array.getElem?_setIfInBounds_ne e, ← Array.getD_eq_getD_getElem?]
      exact h t

theorem EnvR.mono {I I' : Nat → Prop} {μ μ' : Mu} {w w' : World} {env : Env} {a : Act} (h : EnvR I μ w env a) (hm : ∀ l v, VR I μ w l v → VR I' μ' w' l v) : EnvR I' μ' w' env a := fun t => hm _ _ (h t)

theorem wanted_sound {I : Nat → Prop} {μ : Mu} {w : World} {env : Env} {a : Act} {ops : Array Oper} {o : Oper} {g : Option (Nat × Bool)} {b : Bool} (henv : EnvR I μ w env a) (hg : guardOf ops o.guard = some g) (hw : wants env g = some b) :
    Region.wanted o (yielded ops a.tmps) = b := by
  unfold guardOf at hg
  split at hg
  · rename_i h0
    obtain rfl := Option.some.inj hg
    simp only [wants, Option.some.injEq] at hw
    subst hw
    simp [Region.wanted, h0]
  · rename_i j q h0
    split at hg
    case h_2 => cases hg
    rename_i t ht
    obtain rfl := Option.some.inj hg
    have hv := henv t
    simp only [wants] at hw
    simp only [Region.wanted, h0]
    unfold yielded
    rw [ht]
    simp only [Option.bind_some]
    have hgd : a.tmps.getD t undef = (a.tmps[t]?).getD undef := Array.getD_eq_getD_getElem? ..
    split at hw
    · rename_i x hx
      obtain rfl := Option.some.inj hw
      rw [hx] at hv
      have := vr_s hv
      rw [hgd] at this
      cases hq : a.tmps[t]? with
      | none => rw [hq] at this; cases this
      | some v =>
        rw [hq] at this
        simp only [Option.getD_some] at this
        subst this
        simp
    · rename_i x hx
      obtain rfl := Option.some.inj hw
      rw [hx] at hv
      have := vr_s hv
      rw [hgd] at this
      cases hq : a.tmps[t]? with
      | none => simp
      | some v =>
        rw [hq] at this
        simp only [Option.getD_some] at this
        subst this
        simp
    · cases hw

theorem coper_cases {P : Program} {imT : TypeId → Bool} {nt : Nat} {ops : Array Oper} {o : Oper} : (∃ g, guardOf ops o.guard = some g ∧ (∀ d, o.dst = some d → d < nt) ∧ coper P imT nt ops o = ⟨o.dst, cop P imT o.op, g⟩) ∨ coper P imT nt ops o = ⟨o.dst, .bad, none⟩ := by
  unfold coper
  split
  · rename_i g hg
    split
    · rename_i h
      refine .inl ⟨g, hg, fun d hd => ?_, rfl⟩
      rw [hd] at h
      simpa [dstOk] using h
    · exact .inr rfl
  · exact .inr rfl

section
variable {P : Program} {imT : TypeId → Bool} {c : Ctx} {I0 : Nat → Prop} {μ0 : Mu} {w0 : World} {nt : Nat}

theorem look_fresh {H : Heap} {nx : Nat} {h : Hp} {lk : Nat → Option Obj} (hH : lk = look H nx h) (id : Nat) (hid : nx + h.new.length ≤ id) : lk id = none := by rw [hH]; exact look_new hid

theorem Inv.hr {env : Env} {h : Hp} {a : Act} {w : World} {I : Nat → Prop} {μ : Mu} (i : Inv c I0 μ0 w0 nt env h a w I μ) : HR I μ w (fun _ => True) (look c.H c.nx h) := i.goes.hr.sub fun _ _ => ⟨.inl trivial, rfl⟩

/-- One operation further. -/
theorem Inv.op {env : Env} {h : Hp} {a : Act} {w : World} {I I' : Nat → Prop} {μ μ' : Mu} {w' : World} {r : Res} {d : Option Nat} {v : Value} (hO : OSound P c.G c.O) (i : Inv c I0 μ0 w0 nt env h a w I μ) {dr : Bool} (hs : HpStep c dr h r) (hd : ∀ t, d = some t → t < nt)
    (g : Goes I I' μ μ' w w' (look c.H c.nx h) (look c.H c.nx r.h) (fun _ => True) (newN c h r.h)) (hv : VR I' μ' w' r.v v) : Inv c I0 μ0 w0 nt (putD env d r.v) r.h (a.put d v) w' I' μ' := by
  have hlen := hs.len
  have him := g.imm_block i.hr
  refine ⟨(i.env.mono fun l v hl => g.vr i.hr hl).put hv fun t ht => Nat.lt_of_lt_of_le (hd t ht) i.size, ?_, ?_, i.goes.trans g fun id => ?_, fun id hid => ?_, i.glob.mono g.up him, hs.keys hO i.keys⟩
  · cases d <;> simp [Act.put, i.size]
  · cases d <;> simp [Act.put, i.defers]
  · simp only [newN]; omega
  · rw [g.mu id (by simp only [newN]; omega)]
    exact i.none id (by omega)

theorem Inv.skip {env : Env} {h : Hp} {a : Act} {w : World} {I : Nat → Prop} {μ : Mu} {d : Option Nat} (i : Inv c I0 μ0 w0 nt env h a w I μ) (hd : ∀ t, d = some t → t < nt) : Inv c I0 μ0 w0 nt (putD env d .undef) h (a.put d undef) w I μ := by
  refine ⟨i.env.put (.p (.s _)) fun t ht => Nat.lt_of_lt_of_le (hd t ht) i.size, ?_, ?_, i.goes, i.none, i.glob, i.keys⟩
  · cases d <;> simp [Act.put, i.size]
  · cases d <;> simp [Act.put, i.defers]

theorem Inv.keep {env : Env} {h : Hp} {a : Act} {w : World} {I : Nat → Prop} {μ : Mu} (i : Inv c I0 μ0 w0 nt env h a w I μ) (live : List Nat) : Inv c I0 μ0 w0 nt (Sx.keep live env) h a w I μ := by
  refine ⟨fun t => ?_, i.size, i.defers, i.goes, i.none, i.glob, i.keys⟩
  have : get (Sx.keep live env) t = get env t ∨ get (Sx.keep live env) t = .junk := by
    unfold Sx.keep
    induction live with
    | nil => exact .inr rfl
    | cons x r ih =>
      simp only [List.map_cons, get]
      by_cases e : t = x
      · rw [if_pos e]; exact .inl (by rw [e])
      · rw [if_neg e]; exact ih
  rcases this with h | h
  · rw [h]; exact i.env t
  · rw [h]; exact .junk _

theorem seq_ops {ops : Array Oper} {Q : Exit → Act → World → Prop} (hO : OSound P c.G c.O) {env' : Env} {h' : Hp} (hQ : ∀ a' w' I' μ', Inv c I0 μ0 w0 nt env' h' a' w' I' μ' → Q .normal a' w') :
    ∀ (k i : Nat) (env : Env) (h : Hp) (a : Act) (w : World) (I : Nat → Prop) (μ : Mu), i + k = ops.size → runOps c ((ops.toList.map (coper P imT nt ops)).drop i) env h = some (env', h') → Inv c I0 μ0 w0 nt env h a w I μ →
      wpOps P ops Q (List.range' i k) a w
  | 0, i, env, h, a, w, I, μ, hk, hr, hi => by
    rw [List.drop_eq_nil_of_le (by simp; omega)] at hr
    simp only [runOps, Option.some.injEq, Prod.mk.injEq] at hr
    obtain ⟨rfl, rfl⟩ := hr
    exact hQ a w I μ hi
  | k + 1, i, env, h, a, w, I, μ, hk, hr, hi => by
    have hlt : i < ops.size := by omega
    have ho : ops[i]? = some ops[i] := by simp [hlt]
    rw [List.drop_eq_getElem_cons (by simpa using hlt)] at hr
    simp only [List.getElem_map, Array.getElem_toList] at hr
    rw [List.range'_succ, wpOps_cons]
    unfold wpOp
    rw [ho]
    simp only []
    rcases coper_cases (P := P) (imT := imT) (nt := nt) (ops := ops) (o := ops[i]) with ⟨g, hg, hd, hc⟩ | hc
    · rw [hc] at hr
      simp only [runOps] at hr
      split at hr
      · rename_i hw
        split at hr
        case h_2 => cases hr
        rename_i x hx
        rw [wanted_sound hi.env hg hw, if_pos rfl]
        refine .inl (evOp_sound (dr := false) hO hx (hi.hr.sub fun _ _ => ⟨trivial, rfl⟩) (fun id hid _ => hi.none id hid) hi.glob hi.env fun I' μ' w' v hgo hv => ?_)
        have hgo' := hgo.widen hi.hr fun _ _ => trivial
        exact seq_ops hO hQ k (i + 1) _ _ _ _ I' μ' (by omega) hr (hi.op hO (evOp_step hx).1 hd hgo' hv)
      · rename_i hw
        rw [wanted_sound hi.env hg hw, if_neg (by simp)]
        exact seq_ops hO hQ k (i + 1) _ _ _ _ I μ (by omega) hr (hi.skip hd)
      · cases hr
    · rw [hc] at hr
      simp [runOps, wants, evOp] at hr

end
end Go.Sx
