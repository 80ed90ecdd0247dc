/- A scope through which the run jumps forward, once, to any of its labels. -/
import Derived.ScopeJumps
import Derived.WalkMore
namespace Go
/-- As Q; by a goto to label l: J l. -/
def Exit.jumps (J : Nat → Act → World → Prop) (Q : Exit → Act → World → Prop) : Exit → Act → World → Prop
  | .goto l, a, w => J l a w
  | e, a, w => Q e a w
section
variable {P : Program} {a : Act} {w : World} {Q : Exit → Act → World → Prop} {J : Nat → Act → World → Prop}
@[go_sem] theorem Exit.jumps_normal : Exit.jumps J Q .normal a w = Q .normal a w := rfl
@[go_sem] theorem Exit.jumps_exit (id : Nat) : Exit.jumps J Q (.exit id) a w = Q (.exit id) a w := rfl
@[go_sem] theorem Exit.jumps_ret : Exit.jumps J Q .ret a w = Q .ret a w := rfl
@[go_sem] theorem Exit.jumps_panic (ch : List PanicEntry) : Exit.jumps J Q (.panic ch) a w = Q (.panic ch) a w := rfl
@[go_sem] theorem Exit.jumps_goto (l : Nat) : Exit.jumps J Q (.goto l) a w = J l a w := rfl
theorem wp_scope_jumpsOnce {c : Code}
    (first : ∀ J : Nat → Act → World → Prop, (∀ l rest a w, findLabel c l = some rest → rest.wp P (Exit.noGoto Q) a w → J l a w) → c.wp P (Exit.jumps J Q) a w) : (Code.scope c).wp P Q a w := by
  intro b k cs
  obtain ⟨e, a₁, w₁, hq, harr⟩ := first (fun l a w => ∃ rest, findLabel c l = some rest ∧ rest.wp P (Exit.noGoto Q) a w) (fun l rest a w h1 h2 => ⟨rest, h1, h2⟩) b (.inScope c :: k) cs
  cases e with
  | normal => exact ⟨.normal, a₁, w₁, hq, .head step_scope (Steps.trans harr (.one step_inScope))⟩
  | exit id => exact ⟨.exit id, a₁, w₁, hq, fun k' hk => .head step_scope (harr k' (by simp [exitTo, hk]))⟩
  | goto l' =>
    obtain ⟨rest, hf, hr⟩ := hq
    have hg : gotoIn l' (.inScope c :: k) = some (.code rest :: .inScope c :: k) := by simp [gotoIn, hf]
    obtain ⟨e, a₂, w₂, hq, harr₂⟩ := hr b (.inScope c :: k) cs
    cases e with
    | normal => exact ⟨.normal, a₂, w₂, hq, .of_steps (.head step_scope (harr _ hg)) (Steps.trans harr₂ (.one step_inScope))⟩
    | exit id => exact ⟨.exit id, a₂, w₂, hq, fun k' hk => (Steps.trans (.head step_scope (harr _ hg)) (harr₂ k' (by simp [exitTo, hk])))⟩
    | goto l' => exact absurd hq (by simp [Exit.noGoto])
    | ret => exact ⟨_, a₂, w₂, hq, .of_steps (.head step_scope (harr _ hg)) harr₂⟩
    | panic ch => exact ⟨_, a₂, w₂, hq, .of_steps (.head step_scope (harr _ hg)) harr₂⟩
    | outgrown => exact ⟨_, a₂, w₂, hq, .of_steps (.head step_scope (harr _ hg)) harr₂⟩
  | ret => exact ⟨_, a₁, w₁, hq, .of_steps (.one step_scope) harr⟩
  | panic ch => exact ⟨_, a₁, w₁, hq, .of_steps (.one step_scope) harr⟩
  | outgrown => exact ⟨_, a₁, w₁, hq, .of_steps (.one step_scope) harr⟩
end
end Go
