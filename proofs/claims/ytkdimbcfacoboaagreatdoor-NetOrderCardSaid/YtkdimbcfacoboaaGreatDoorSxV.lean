/- The machine's steps as equations alone: what is sealed can't be computed, only rewritten. No condition. -/
import Derived.Test.YtkdimbcfacoboaaGreatDoorSxU
namespace Go.Sx
open Go

noncomputable def veil {α : Type} (a : α) : α := Classical.choose (⟨a, rfl⟩ : ∃ b, b = a)
theorem veil_eq {α : Type} (a : α) : veil a = a := Classical.choose_spec (⟨a, rfl⟩ : ∃ b, b = a)

noncomputable def runOpsS : Ctx → List IROper → Env → Hp → Option (Env × Hp) := veil runOps
noncomputable def runOpsTS : Ctx → List IROper → Env → Hp → Option (List Tr × Env × Hp) := veil runOpsT
noncomputable def runCS : Ctx → Nat → IRC → St → Option (Ex × St) := veil runC
noncomputable def evOpS : Ctx → Bool → Env → Hp → IROp → Option Res := veil evOp
theorem runOpsS_eq : runOpsS = runOps := veil_eq _
theorem runOpsTS_eq : runOpsTS = runOpsT := veil_eq _
theorem runCS_eq : runCS = runC := veil_eq _

theorem runOpsS_nil (c : Ctx) (env : Env) (h : Hp) : runOpsS c [] env h = some (env, h) := by rw [runOpsS_eq]; rfl
theorem runOpsS_cons (c : Ctx) (o : IROper) (r : List IROper) (env : Env) (h : Hp) : runOpsS c (o :: r) env h = match wants env o.guard with
    | some true => match evOp c false env h o.op with
      | some x => runOpsS c r (putD env o.dst x.v) x.h
      | none => none
    | some false => runOpsS c r (putD env o.dst .undef) h
    | none => none := by rw [runOpsS_eq]; rfl
theorem runOpsTS_nil (c : Ctx) (env : Env) (h : Hp) : runOpsTS c [] env h = some ([], env, h) := by rw [runOpsTS_eq]; rfl
theorem runOpsTS_cons (c : Ctx) (o : IROper) (r : List IROper) (env : Env) (h : Hp) : runOpsTS c (o :: r) env h = match wants env o.guard with
    | some true => match evOp c true env h o.op with
      | some x => match runOpsTS c r (putD env o.dst x.v) x.h with
        | some (tr, e, h') => some (⟨x.tch, x.md, c.nx + h.new.length, c.nx + x.h.new.length, o.op.slots ++ gslot o.guard, o.dst⟩ :: tr, e, h')
        | none => none
      | none => none
    | some false => match runOpsTS c r (putD env o.dst .undef) h with
      | some (tr, e, h') => some (⟨[], false, c.nx + h.new.length, c.nx + h.new.length, gslot o.guard, o.dst⟩ :: tr, e, h')
      | none => none
    | none => none := by rw [runOpsTS_eq]; rfl

section
variable (c : Ctx) (n : Nat) (st : St)
theorem runCS_skip : runCS c n .skip st = some (.normal, st) := by rw [runCS_eq]; rfl
theorem runCS_reg (ops : List IROper) (live : List Nat) : runCS c n (.region ops none live) st = match runOpsS c ops st.env st.h with
    | some (env, h) => some (.normal, ⟨keep live env, h⟩)
    | none => none := by rw [runCS_eq, runOpsS_eq]; rfl
theorem runCS_draw (ops : List IROper) (before live : List Nat) : runCS c n (.region ops (some before) live) st = match runOpsTS c ops st.env st.h with
    | some (tr, env, h) => if indepD tr before then some (.normal, ⟨keep live env, h⟩) else none
    | none => none := by rw [runCS_eq, runOpsTS_eq]; rfl
theorem runCS_seq (a b : IRC) : runCS c n (.seq a b) st = match runCS c n a st with
    | some (.normal, st') => runCS c n b st'
    | r => r := by rw [runCS_eq]; rfl
theorem runCS_cond (x : Opd) (a b : IRC) : runCS c n (.cond x a b) st = match opd c st.env x with
    | .p (.s (.bool t)) => if t then runCS c n a st else runCS c n b st
    | _ => none := by rw [runCS_eq]; rfl
theorem runCS_block (id : Nat) (a : IRC) : runCS c n (.block id a) st = match runCS c n a st with
    | some (.exit j, st') => if j = id then some (.normal, st') else some (.exit j, st')
    | r => r := by rw [runCS_eq]; rfl
theorem runCS_loop (a : IRC) : runCS c n (.loop a) st = iter (runCS c n a) n st := by rw [runCS_eq]; rfl
theorem runCS_exit (id : Nat) : runCS c n (.exit id) st = some (.exit id, st) := by rw [runCS_eq]; rfl
theorem runCS_ret : runCS c n .ret st = some (.ret, st) := by rw [runCS_eq]; rfl
end

theorem runF_S (O : Oracle) (G : Nat → Option (List PV)) (n : Nat) (f : IRF) (args : List LV) (H : Heap) (nx : Nat) : runF O G n f args H nx =
  if args.length = f.params.length then
    match runCS ⟨O, G, H, nx⟩ n f.body ⟨f.params.zip args, ⟨[], []⟩⟩ with
    | some (.exit _, _) => none
    | some (_, st) => match resVs H nx st f.results with
      | some l => finish f.own H nx (oneL l) st.h
      | none => none
    | none => none
  else none := by rw [runCS_eq]; rfl
end Go.Sx
