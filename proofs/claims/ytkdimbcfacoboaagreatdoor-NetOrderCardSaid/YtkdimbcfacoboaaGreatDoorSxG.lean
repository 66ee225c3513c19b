/- Single operations, one by one: those on numbers, strings, places. -/
import Derived.Test.YtkdimbcfacoboaaGreatDoorSxF
namespace Go.Sx
open Go

section ops
variable {P : Program} {imT : TypeId → Bool} {c : Ctx} {dr : Bool} {env : Env} {h : Hp} {a : Act} {w : World} {I : Nat → Prop} {μ : Mu} {r : Res} {T : Nat → Prop}
variable {dst : Option Tmp} {ty : TypeId} {pos : String} {after : Array Edge} {guard : Option (Nat × Bool)}

theorem binI_run {op : BinOp} {k : IntKind} {x y : Int} {v : Value} (h : binI op k x y = some v) (hs : op ≠ .shl) (hs' : op ≠ .shr) (t : TypeId) : (binOp op t (.int k x) (.int k y)).run P w = .ok v w := by
  cases op <;> simp only [binI, leI_eq, leI_not, Option.some.injEq] at h <;> first
    | exact absurd rfl hs
    | exact absurd rfl hs'
    | (cases h; done)
    | (subst h; simp [binOp, Op.intArith, Op.intBits, Op.intCmp]; done)
    | (split at h
       · cases h
       · rename_i hy
         simp only [Option.some.injEq] at h
         subst h
         simp [binOp, Op.intDiv, hy])

theorem shI_run {op : BinOp} {k k' : IntKind} {x y : Int} {v : Value} (h : shI op k x y = some v) (hs : op = .shl ∨ op = .shr) (t : TypeId) : (binOp op t (.int k x) (.int k' y)).run P w = .ok v w := by
  unfold shI at h
  split at h
  · cases h
  · rename_i hy
    rcases hs with rfl | rfl <;> simp only [Option.some.injEq] at h <;> subst h <;> simp [binOp, Op.shift, hy]

theorem binS_run {op : BinOp} {x y : ByteArray} {v : Value} (h : binS op x y = some v) (t : TypeId) : (binOp op t (.string x) (.string y)).run P w = .ok v w := by
  cases op <;> simp only [binS, Option.some.injEq] at h <;> first
    | (cases h; done)
    | (subst h; simp [binOp, Op.stringOp]; done)
    | (split at h
       · cases h
       · rename_i hy
         simp only [Option.some.injEq] at h
         subst h
         simp only [binOp, Op.stringOp, hy]
         simp)

theorem guard_run {op : BinOp} {t : TypeId} {x y : Operand} {u v : Value} (h1 : ∀ a, u ≠ .agg a) (h2 : u ≠ .nilIface) : (eqGuard op t x y u v).run P w = .ok () w := by
  cases op <;> first
    | (simp [eqGuard]; done)
    | (cases u <;> first
        | exact absurd rfl h2
        | exact absurd rfl (h1 _)
        | simp [eqGuard])

theorem op_bin (hH : HR I μ w T (look c.H c.nx h)) (ho : Opds c env a I μ w) {op : BinOp} {t t' : TypeId} {x y : Operand} (hr : evOp c dr env h (.bin op (copd x) (copd y)) = some r) :
    DoesOp P c h a w I μ r T ⟨dst, .binOp op t x y t', ty, pos, after, guard⟩ := by
  have hx := ho x
  have hy := ho y
  simp only [evOp] at hr
  split at hr
  case h_2 => cases hr
  rename_i lv hl
  obtain rfl := Option.some.inj hr
  unfold binL at hl
  split at hl
  · rename_i k p k' q e1 e2
    rw [Option.map_eq_some_iff] at hl
    obtain ⟨v, hv, rfl⟩ := hl
    rw [e1] at hx; rw [e2] at hy
    split at hv
    · rename_i hs
      exact does_pure hH newN_self (v := v) (by simp [execOp, vr_s hx, vr_s hy, guard_run, shI_run hv (by cases op <;> first | exact .inl rfl | exact .inr rfl | cases hs)]) (.p (.s v))
    · split at hv
      case isFalse => cases hv
      rename_i hk
      subst hk
      exact does_pure hH newN_self (v := v) (by simp [execOp, vr_s hx, vr_s hy, guard_run, binI_run hv (fun e => by subst e; simp [binI] at hv) (fun e => by subst e; simp [binI] at hv)]) (.p (.s v))
  · rename_i p q e1 e2
    rw [Option.map_eq_some_iff] at hl
    obtain ⟨v, hv, rfl⟩ := hl
    rw [e1] at hx; rw [e2] at hy
    exact does_pure hH newN_self (v := v) (by simp [execOp, vr_s hx, vr_s hy, guard_run, binS_run hv]) (.p (.s v))
  · cases hl

theorem equalIn_bool {t : TypeId} (hu : P.underlying t = some .bool) (x y : Bool) : (Op.equalIn 10000 t (.bool x) (.bool y)).run P w = .ok (x == y) w := by
  rw [show (10000 : Nat) = 9999 + 1 from rfl, Op.equalIn]
  simp [run_underlying hu]

theorem equalIn_ptr {t e : TypeId} (hu : P.underlying t = some (.pointer e)) (p q : Option Addr) (h : p = none ∨ q = none) : (Op.equalIn 10000 t (.pointer p) (.pointer q)).run P w = .ok (p.isNone && q.isNone) w := by
  rw [show (10000 : Nat) = 9999 + 1 from rfl, Op.equalIn]
  cases p <;> cases q <;> simp [run_underlying hu] at h ⊢

theorem equalIn_slice {t e : TypeId} (hu : P.underlying t = some (.slice e)) (p q : Option Addr) (n m k l : Nat) (h : p = none ∨ q = none) : (Op.equalIn 10000 t (.slice p n m) (.slice q k l)).run P w = .ok (p.isNone && q.isNone) w := by
  rw [show (10000 : Nat) = 9999 + 1 from rfl, Op.equalIn]
  cases p <;> cases q <;> simp [run_underlying hu] at h ⊢

theorem equalIn_func {t : TypeId} {ps rs : Array TypeId} {vv : Bool} (hu : P.underlying t = some (.func ps rs vv)) : (Op.equalIn 10000 t .nilFunc .nilFunc).run P w = .ok true w ∧
    (∀ f x y, (Op.equalIn 10000 t .nilFunc (.func f x y)).run P w = .ok false w) ∧ ∀ f x y, (Op.equalIn 10000 t (.func f x y) .nilFunc).run P w = .ok false w := by
  rw [show (10000 : Nat) = 9999 + 1 from rfl]
  refine ⟨?_, fun f x y => ?_, fun f x y => ?_⟩ <;> rw [Op.equalIn] <;> simp [run_underlying hu]

theorem eq_of_equalIn {t : TypeId} {x y : Value} {b : Bool} (h : (Op.equalIn 10000 t x y).run P w = .ok b w) (h1 : binOp .eql t x y = (do pure (.bool (← Op.equal t x y)))) (h2 : binOp .neq t x y = (do pure (.bool (!(← Op.equal t x y))))) :
    (binOp .eql t x y).run P w = .ok (.bool b) w ∧ (binOp .neq t x y).run P w = .ok (.bool (!b)) w := by
  rw [h1, h2]
  simp [Op.equal, Op.maxDepth, h]

/-- What is no number, no string, no struct, no interface: '==' of two. -/
theorem eqL_run {k : EK} {lx ly : LV} {t : Bool} (hl : eqL k lx ly = some t) {ty : TypeId} (hk : eqKind P ty = some k) {x y : Value} (hx : VR I μ w lx x) (hy : VR I μ w ly y) :
    (∀ a, x ≠ .agg a) ∧ x ≠ .nilIface ∧ (binOp .eql ty x y).run P w = .ok (.bool t) w ∧ (binOp .neq ty x y).run P w = .ok (.bool (!t)) w := by
  have hbool : k = .bool → P.underlying ty = some .bool := fun e => by
    subst e; unfold eqKind at hk; split at hk <;> first | assumption | cases hk
  have hptr : k = .ptr → ∃ e, P.underlying ty = some (.pointer e) := fun e => by
    subst e; unfold eqKind at hk; split at hk <;> first | exact ⟨_, by assumption⟩ | cases hk
  have hsl : k = .slice → ∃ e, P.underlying ty = some (.slice e) := fun e => by
    subst e; unfold eqKind at hk; split at hk <;> first | exact ⟨_, by assumption⟩ | cases hk
  have hfn : k = .func → ∃ a b c, P.underlying ty = some (.func a b c) := fun e => by
    subst e; unfold eqKind at hk; split at hk <;> first | exact ⟨_, _, _, by assumption⟩ | cases hk
  unfold eqL at hl
  split at hl
  · obtain rfl := Option.some.inj hl
    obtain rfl := vr_s hx; obtain rfl := vr_s hy
    exact ⟨by simp, by simp, eq_of_equalIn (equalIn_bool (hbool rfl) _ _) rfl rfl⟩
  · obtain rfl := Option.some.inj hl
    obtain ⟨e, hu⟩ := hptr rfl
    obtain rfl := vr_s hx; obtain rfl := vr_s hy
    exact ⟨by simp, by simp, eq_of_equalIn (equalIn_ptr hu none none (.inl rfl)) rfl rfl⟩
  · obtain rfl := Option.some.inj hl
    obtain ⟨e, hu⟩ := hptr rfl
    obtain rfl := vr_s hx; obtain ⟨b, o, rfl, _⟩ := hy.pp.imm_at (μ := μ)
    exact ⟨by simp, by simp, eq_of_equalIn (equalIn_ptr hu none (some _) (.inl rfl)) rfl rfl⟩
  · obtain rfl := Option.some.inj hl
    obtain ⟨e, hu⟩ := hptr rfl
    obtain rfl := vr_s hx; obtain ⟨b, o, s, _, rfl⟩ := vr_ref hy
    exact ⟨by simp, by simp, eq_of_equalIn (equalIn_ptr hu none (some _) (.inl rfl)) rfl rfl⟩
  · obtain rfl := Option.some.inj hl
    obtain ⟨e, hu⟩ := hptr rfl
    obtain rfl := vr_s hy; obtain ⟨b, o, rfl, _⟩ := hx.pp.imm_at (μ := μ)
    exact ⟨by simp, by simp, eq_of_equalIn (equalIn_ptr hu (some _) none (.inr rfl)) rfl rfl⟩
  · obtain rfl := Option.some.inj hl
    obtain ⟨e, hu⟩ := hptr rfl
    obtain rfl := vr_s hy; obtain ⟨b, o, s, _, rfl⟩ := vr_ref hx
    exact ⟨by simp, by simp, eq_of_equalIn (equalIn_ptr hu (some _) none (.inr rfl)) rfl rfl⟩
  · obtain rfl := Option.some.inj hl
    obtain ⟨e, hu⟩ := hsl rfl
    obtain rfl := vr_s hx; obtain rfl := vr_s hy
    exact ⟨by simp, by simp, eq_of_equalIn (equalIn_slice hu none none _ _ _ _ (.inl rfl)) rfl rfl⟩
  · obtain rfl := Option.some.inj hl
    obtain ⟨e, hu⟩ := hsl rfl
    obtain rfl := vr_s hx; obtain ⟨b, o, cap, rfl, _⟩ := hy.pp.sl_at (μ := μ)
    exact ⟨by simp, by simp, eq_of_equalIn (equalIn_slice hu none (some _) _ _ _ _ (.inl rfl)) rfl rfl⟩
  · obtain rfl := Option.some.inj hl
    obtain ⟨e, hu⟩ := hsl rfl
    obtain rfl := vr_s hx; obtain ⟨b, o, s, o', cap, _, rfl, _⟩ := vr_arr hy
    exact ⟨by simp, by simp, eq_of_equalIn (equalIn_slice hu none (some _) _ _ _ _ (.inl rfl)) rfl rfl⟩
  · obtain rfl := Option.some.inj hl
    obtain ⟨e, hu⟩ := hsl rfl
    obtain rfl := vr_s hy; obtain ⟨b, o, cap, rfl, _⟩ := hx.pp.sl_at (μ := μ)
    exact ⟨by simp, by simp, eq_of_equalIn (equalIn_slice hu (some _) none _ _ _ _ (.inr rfl)) rfl rfl⟩
  · obtain rfl := Option.some.inj hl
    obtain ⟨e, hu⟩ := hsl rfl
    obtain rfl := vr_s hy; obtain ⟨b, o, s, o', cap, _, rfl, _⟩ := vr_arr hx
    exact ⟨by simp, by simp, eq_of_equalIn (equalIn_slice hu (some _) none _ _ _ _ (.inr rfl)) rfl rfl⟩
  · obtain rfl := Option.some.inj hl
    obtain ⟨a1, a2, a3, hu⟩ := hfn rfl
    obtain rfl := vr_s hx; obtain rfl := vr_s hy
    exact ⟨by simp, by simp, eq_of_equalIn (equalIn_func hu).1 rfl rfl⟩
  · obtain rfl := Option.some.inj hl
    obtain ⟨a1, a2, a3, hu⟩ := hfn rfl
    obtain rfl := vr_s hy; obtain ⟨fa, ca, rfl, _⟩ := vr_fn hx
    exact ⟨by simp, by simp, eq_of_equalIn ((equalIn_func hu).2.2 _ _ _) rfl rfl⟩
  · obtain rfl := Option.some.inj hl
    obtain ⟨a1, a2, a3, hu⟩ := hfn rfl
    obtain rfl := vr_s hx; obtain ⟨fa, ca, rfl, _⟩ := vr_fn hy
    exact ⟨by simp, by simp, eq_of_equalIn ((equalIn_func hu).2.1 _ _ _) rfl rfl⟩
  · cases hl

theorem op_eq (hH : HR I μ w T (look c.H c.nx h)) (ho : Opds c env a I μ w) {k : EK} {t t' : TypeId} (hk : eqKind P t = some k) {x y : Operand} {neg : Bool} (hr : evOp c dr env h (.eq neg k (copd x) (copd y)) = some r) :
    DoesOp P c h a w I μ r T ⟨dst, .binOp (if neg then .neq else .eql) t x y t', ty, pos, after, guard⟩ := by
  simp only [evOp] at hr
  split at hr
  case h_2 => cases hr
  rename_i b hl
  obtain rfl := Option.some.inj hr
  obtain ⟨h1, h2, h3, h4⟩ := eqL_run hl hk (ho x) (ho y)
  refine does_pure hH newN_self (v := .bool (if neg then !b else b)) ?_ (.p (.s _))
  cases neg
  · simp [execOp, guard_run h1 h2, h3]
  · simp [execOp, guard_run h1 h2, h4]

theorem op_un (hH : HR I μ w T (look c.H c.nx h)) (ho : Opds c env a I μ w) {u : UnOp} {t : TypeId} {x : Operand} (hr : evOp c dr env h (.un u (copd x)) = some r) :
    DoesOp P c h a w I μ r T ⟨dst, .unOp u t x, ty, pos, after, guard⟩ := by
  have hx := ho x
  simp only [evOp] at hr
  split at hr
  case h_2 => cases hr
  rename_i lv hl
  obtain rfl := Option.some.inj hr
  unfold unL at hl
  split at hl
  · rename_i k n e1
    obtain rfl := Option.some.inj hl
    rw [e1] at hx
    exact does_pure hH newN_self (v := .int k (k.wrap (0 - n))) (by simp [execOp, vr_s hx, Op.unary, Op.intArith]) (.p (.s _))
  · rename_i k n e1
    obtain rfl := Option.some.inj hl
    rw [e1] at hx
    refine does_pure hH newN_self (v := _) ?_ (.p (.s _))
    simp only [execOp, vr_s hx, Op.unary, Op.intBits]
    rfl
  · rename_i b e1
    obtain rfl := Option.some.inj hl
    rw [e1] at hx
    exact does_pure hH newN_self (v := .bool (!b)) (by simp [execOp, vr_s hx, Op.unary]) (.p (.s _))
  · cases hl

theorem op_fieldAddr (hH : HR I μ w T (look c.H c.nx h)) (ho : Opds c env a I μ w) {t : TypeId} {f : Nat} {x : Operand} (hr : evOp c dr env h (cop P imT (.fieldAddr t x f)) = some r) :
    DoesOp P c h a w I μ r T ⟨dst, .fieldAddr t x f, ty, pos, after, guard⟩ := by
  have hx := ho x
  simp only [cop] at hr
  split at hr
  case h_2 => simp [evOp] at hr
  rename_i fs hu
  split at hr
  case h_2 => simp [evOp] at hr
  rename_i fd hf
  split at hr
  case h_2 => simp [evOp] at hr
  rename_i s hs
  split at hr
  case isTrue => simp [evOp] at hr
  rename_i hs0
  have hrun : ∀ {b o : Nat}, a.eval x = .pointer (some ⟨b, o, none⟩) → (execOp a.eval ⟨dst, .fieldAddr t x f, ty, pos, after, guard⟩).run P w = .ok (.value (.pointer (some ⟨b, o + fd.offset, none⟩))) w := fun he => by
    simp [execOp, Instr.fieldAt, run_underlying hu, hf, he, Instr.sureAddr, fieldPlace, run_sz hs, hs0, add_lit]
  simp only [evOp] at hr
  split at hr
  · rename_i cs o hv
    obtain rfl := Option.some.inj hr
    rw [hv] at hx
    obtain ⟨b, o', he, hb, hat⟩ := hx.pp.imm_at (μ := μ)
    refine does_pure hH newN_self (hrun he) (.p ?_)
    rw [Nat.add_assoc]
    exact mk_imm hb hat _
  · rename_i id o hv
    obtain rfl := Option.some.inj hr
    rw [hv] at hx
    obtain ⟨b, o', s', hm, he⟩ := vr_ref hx
    refine does_pure hH newN_self (hrun he) ?_
    rw [Nat.add_assoc]
    exact .ref _ _ _ _ _ hm
  · cases hr

theorem op_field (hH : HR I μ w T (look c.H c.nx h)) (ho : Opds c env a I μ w) {t : TypeId} {f : Nat} {x : Operand} (hr : evOp c dr env h (cop P imT (.field t x f)) = some r) :
    DoesOp P c h a w I μ r T ⟨dst, .field t x f, ty, pos, after, guard⟩ := by
  have hx := ho x
  simp only [cop] at hr
  split at hr
  case h_2 => simp [evOp] at hr
  rename_i fs hu
  split at hr
  case h_2 => simp [evOp] at hr
  rename_i fd hf
  split at hr
  case h_2 => simp [evOp] at hr
  rename_i s g hs hg
  simp only [evOp] at hr
  have key : ∀ {cs : List LV} {ar : Array Value} {v : LV}, a.eval x = .agg ar → ar.size = cs.length → (∀ u ∈ ar.toList, u.oneCell' = true) → (∀ (j : Nat) (l : LV) (u : Value), cs[j]? = some l → ar[j]? = some u → VR I μ w l u) → rd cs fd.offset s g = some v →
      ∃ u, (execOp a.eval ⟨dst, .field t x f, ty, pos, after, guard⟩).run P w = .ok (.value u) w ∧ VR I μ w v u := fun he hl h1 hc hv => by
    obtain ⟨u, g1, g2⟩ := part_vr (P := P) hl h1 hc hv hs hg
    exact ⟨u, by simp [execOp, Instr.field, run_underlying hu, hf, he, asAgg, g1], g2⟩
  split at hr
  · rename_i cs hv
    rw [hv] at hx
    obtain ⟨ar, he, hl, h1, hc⟩ := vr_pagg hx
    split at hr
    · rename_i v hrd
      obtain rfl := Option.some.inj hr
      obtain ⟨u, g1, g2⟩ := key he hl h1 hc hrd
      exact does_pure hH newN_self g1 g2
    · cases hr
  · rename_i cs hv
    rw [hv] at hx
    obtain ⟨ar, he, hl, h1, hc⟩ := vr_agg hx
    split at hr
    · rename_i v hrd
      obtain rfl := Option.some.inj hr
      obtain ⟨u, g1, g2⟩ := key he hl h1 hc hrd
      exact does_pure hH newN_self g1 g2
    · cases hr
  · cases hr

theorem natL_some {l : LV} {n : Nat} {v : Value} (h : natL l = some n) (hv : VR I μ w l v) : ∃ k, v = .int k (n : Int) := by
  unfold natL at h
  split at h
  · rename_i k m
    split at h
    · rename_i h0
      obtain rfl := Option.some.inj h
      exact ⟨k, by rw [vr_s hv, Int.toNat_of_nonneg h0]⟩
    · cases h
  · cases h

theorem op_indexAddr (hH : HR I μ w T (look c.H c.nx h)) (ho : Opds c env a I μ w) {t : TypeId} {x i : Operand} (hr : evOp c dr env h (cop P imT (.indexAddr t x i)) = some r) :
    DoesOp P c h a w I μ r T ⟨dst, .indexAddr t x i, ty, pos, after, guard⟩ := by
  have hx := ho x
  have hi := ho i
  simp only [cop] at hr
  split at hr
  case h_3 => simp [evOp] at hr
  · rename_i e hu
    split at hr
    case h_2 => simp [evOp] at hr
    rename_i s hs
    simp only [evOp] at hr
    split at hr
    · rename_i cs len sz' full n hv hn
      split at hr
      case isFalse => cases hr
      rename_i hc
      obtain rfl := Option.some.inj hr
      rw [hv] at hx
      obtain ⟨k, hi'⟩ := natL_some hn hi
      obtain ⟨b, o, cap, he, hb, hat, hlen, _⟩ := hx.pp.sl_at (μ := μ)
      refine does_pure hH newN_self (v := .pointer (some ⟨b, o + n * s, none⟩)) ?_ (.p (mk_imm hb hat _))
      have h0 : n < len := hc.1
      simp [execOp, Instr.indexAt, hi', he, asIntOf, run_underlying hu, h0, run_sz hs, add_lit]
    · rename_i id off len sz' cp ex n hv hn
      split at hr
      case isFalse => cases hr
      rename_i hc
      obtain rfl := Option.some.inj hr
      rw [hv] at hx
      obtain ⟨k, hi'⟩ := natL_some hn hi
      obtain ⟨b, o, s', o', cap, hm, he, hoo, hlen, _⟩ := vr_arr hx
      obtain rfl : o' = o + off := hoo.resolve_left (by omega)
      refine does_pure hH newN_self (v := .pointer (some ⟨b, o + (off + n * s), none⟩)) ?_ (.ref _ _ _ _ _ hm)
      have h0 : n < len := hc.1
      simp [execOp, Instr.indexAt, hi', he, asIntOf, run_underlying hu, h0, run_sz hs, add_lit, Nat.add_assoc]
    · cases hr
  · rename_i m e hu
    split at hr
    case h_2 => simp [evOp] at hr
    rename_i s hs
    simp only [evOp] at hr
    split at hr
    · rename_i cs off n hv hn
      split at hr
      case isFalse => cases hr
      rename_i hc
      obtain rfl := Option.some.inj hr
      rw [hv] at hx
      obtain ⟨k, hi'⟩ := natL_some hn hi
      obtain ⟨b, o, he, hb, hat⟩ := hx.pp.imm_at (μ := μ)
      refine does_pure hH newN_self (v := .pointer (some ⟨b, o + (off + n * s), none⟩)) ?_ (.p (mk_imm hb hat _))
      have h0 : n < m := hc
      simp [execOp, Instr.indexAt, hi', he, asIntOf, run_underlying hu, h0, run_sz hs, add_lit, Instr.sureAddr, Nat.add_assoc]
    · rename_i id off n hv hn
      split at hr
      case isFalse => cases hr
      rename_i hc
      obtain rfl := Option.some.inj hr
      rw [hv] at hx
      obtain ⟨k, hi'⟩ := natL_some hn hi
      obtain ⟨b, o, s', hm, he⟩ := vr_ref hx
      refine does_pure hH newN_self (v := .pointer (some ⟨b, o + (off + n * s), none⟩)) ?_ (.ref _ _ _ _ _ hm)
      have h0 : n < m := hc
      simp [execOp, Instr.indexAt, hi', he, asIntOf, run_underlying hu, h0, run_sz hs, add_lit, Instr.sureAddr, Nat.add_assoc]
    · cases hr

theorem op_index (hH : HR I μ w T (look c.H c.nx h)) (ho : Opds c env a I μ w) {t : TypeId} {x i : Operand} (hr : evOp c dr env h (cop P imT (.index t x i)) = some r) :
    DoesOp P c h a w I μ r T ⟨dst, .index t x i, ty, pos, after, guard⟩ := by
  have hx := ho x
  have hi := ho i
  simp only [cop] at hr
  split at hr
  case h_3 => simp [evOp] at hr
  · rename_i hu
    simp only [evOp] at hr
    split at hr
    case h_2 => cases hr
    rename_i b n hv hn
    split at hr
    case h_2 => cases hr
    rename_i u hbu
    obtain rfl := Option.some.inj hr
    rw [hv] at hx
    obtain ⟨k, hi'⟩ := natL_some hn hi
    have hlt : n < b.data.size := (Array.getElem?_eq_some_iff.1 hbu).1
    have hget : b[n]? = some u := by
      have : n < b.size := hlt
      rw [getElem?_pos b n this]
      have h2 := (Array.getElem?_eq_some_iff.1 hbu).2
      rw [← h2]; rfl
    refine does_pure hH newN_self (v := .int .u8 u.toNat) ?_ (.p (.s _))
    simp [execOp, Instr.index, hi', vr_s hx, asIntOf, run_underlying hu, hget]
  · rename_i m e hu
    split at hr
    case h_2 => simp [evOp] at hr
    rename_i s g hs hg
    simp only [evOp] at hr
    split at hr
    case h_2 => cases hr
    rename_i cs n hv hn
    split at hr
    case isFalse => cases hr
    rename_i hlt
    split at hr
    case h_2 => cases hr
    rename_i v hrd
    obtain rfl := Option.some.inj hr
    rw [hv] at hx
    obtain ⟨k, hi'⟩ := natL_some hn hi
    obtain ⟨ar, he, hl, h1, hc⟩ := vr_pagg hx
    obtain ⟨u, g1, g2⟩ := part_vr (P := P) hl h1 hc hrd hs hg
    have h0 : n < m := hlt
    exact does_pure hH newN_self (v := u) (by simp [execOp, Instr.index, hi', he, asIntOf, run_underlying hu, h0, run_sz hs, g1]) g2

theorem op_extract (hH : HR I μ w T (look c.H c.nx h)) (ho : Opds c env a I μ w) {x : Operand} {i : Nat} (hr : evOp c dr env h (.ext (copd x) i) = some r) :
    DoesOp P c h a w I μ r T ⟨dst, .extract x i, ty, pos, after, guard⟩ := by
  have hx := ho x
  simp only [evOp] at hr
  split at hr
  case h_2 => cases hr
  rename_i vs hv
  split at hr
  case h_2 => cases hr
  rename_i v hvi
  obtain rfl := Option.some.inj hr
  rw [hv] at hx
  obtain ⟨ar, he, hl, hc⟩ := vr_tuple hx
  have hlt : i < ar.size := by rw [hl]; exact (List.getElem?_eq_some_iff.1 hvi).1
  have hu : ar[i]? = some ar[i] := by simp [hlt]
  exact does_pure hH newN_self (v := ar[i]) (by simp [execOp, he, Instr.extract, hu]) (hc i v _ hvi hu)

theorem opds_map (ho : Opds c env a I μ w) (xs : Array Operand) : (xs.map a.eval).size = (xs.toList.map (fun x => opd c env (copd x))).length ∧
    ∀ (j : Nat) (l : LV) (u : Value), (xs.toList.map (fun x => opd c env (copd x)))[j]? = some l → (xs.map a.eval)[j]? = some u → VR I μ w l u := by
  refine ⟨by simp, fun j l u hl hu => ?_⟩
  rw [List.getElem?_map, Option.map_eq_some_iff] at hl
  obtain ⟨x, hx, rfl⟩ := hl
  rw [Array.getElem?_map, Option.map_eq_some_iff] at hu
  obtain ⟨y, hy, rfl⟩ := hu
  rw [Array.getElem?_toList] at hx
  obtain rfl : x = y := Option.some.inj (hx.symm.trans hy)
  exact ho x

theorem op_makeFunc (hH : HR I μ w T (look c.H c.nx h)) (ho : Opds c env a I μ w) {f : FuncId} {fs cs : Array Operand} (hr : evOp c dr env h (.mkFn f (fs.toList.map copd) (cs.toList.map copd)) = some r) :
    DoesOp P c h a w I μ r T ⟨dst, .makeFunc (.func f) fs cs, ty, pos, after, guard⟩ := by
  simp only [evOp, Option.some.injEq] at hr
  subst hr
  obtain ⟨h1, h2⟩ := opds_map ho fs
  obtain ⟨h3, h4⟩ := opds_map ho cs
  refine does_pure hH newN_self (v := .func (.func f) (fs.map a.eval) (cs.map a.eval)) (by simp [execOp, Instr.makeFunc]) ?_
  simp only [List.map_map]
  exact .fn f _ _ _ _ h1 h3 h2 h4

end ops
end Go.Sx
