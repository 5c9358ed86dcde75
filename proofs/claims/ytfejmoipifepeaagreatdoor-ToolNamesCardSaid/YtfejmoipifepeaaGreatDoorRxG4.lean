/- The executor is right: texts and calls. -/
import Derived.Test.YtfejmoipifepeaaGreatDoorRxG2
import Derived.Scope
set_option linter.unusedSimpArgs false
set_option linter.unusedVariables false
set_option linter.unusedSectionVars false
namespace Go.Rx

def Ex.out : Ex → Exit
  | .normal => .normal
  | .exit id => .exit id
  | .goto l => .goto l
  | .ret => .ret

/- What is known behind a text. -/
def After (env : Env) (G : Cfg) (nt : Nat) (ρ : Ren) (st : St) (w : World) (st' : St) (a' : Act) (w' : World) : Prop :=
  ∃ ρ', SRel env G nt ρ' st' a' w' ∧ Grows ρ st.heap.get st.next w ρ' st'.heap.get st'.next w'

def Post (env : Env) (G : Cfg) (nt : Nat) (ρ : Ren) (st : St) (w : World) (e : Ex) (st' : St) : Exit → Act → World → Prop :=
  fun x a' w' => x = e.out ∧ After env G nt ρ st w st' a' w'

/- A region whose order is drawn comes to what it comes to in the text's order. -/
def RegionSound (P : Program) (env : Env) (G : Cfg) : Prop :=
  ∀ (call : CallFn) (nt id : Nat) (ops : Array Oper) (st st' : St) (ρ : Ren) (a : Act) (w : World), MonoCall call → CallOk P env G call → SRel env G nt ρ st a w → regOk P ops true = true →
    evalReg P G call nt ops true st = some st' → Fresh ρ st.next st'.next → (Code.region id ops true).wp P (Post env G nt ρ st w .normal st') a w

section
variable {P : Program} {env : Env} {G : Cfg} {nt : Nat} {call : CallFn}

theorem After.refl {ρ : Ren} {st : St} {a : Act} {w : World} (h : SRel env G nt ρ st a w) : After env G nt ρ st w st a w := ⟨ρ, h, .refl _ _ _ _⟩

theorem After.trans {ρ ρ' : Ren} {st st1 st2 : St} {w w1 w2 : World} {a2 : Act} (g : Grows ρ st.heap.get st.next w ρ' st1.heap.get st1.next w1) (h : After env G nt ρ' st1 w1 st2 a2 w2) : After env G nt ρ st w st2 a2 w2 := by
  obtain ⟨ρ'', h1, h2⟩ := h
  exact ⟨ρ'', h1, g.trans h2⟩

theorem Fresh.rest {ρ ρ' : Ren} {h h' : HF} {n n1 n2 : Nat} {w w' : World} (f : Fresh ρ n n2) (g : Grows ρ h n w ρ' h' n1 w') : Fresh ρ' n1 n2 := fun i hi hlt => by
  rw [g.same i (by omega)]
  have := g.nle
  exact f i (by omega) hlt

theorem Fresh.init {ρ : Ren} {n n1 n2 : Nat} (f : Fresh ρ n n2) (h : n1 ≤ n2) : Fresh ρ n n1 := fun i hi hlt => f i hi (by omega)

theorem evalC_ok (hE : EOk P env G) (hD : RegionSound P env G) (hmono : MonoCall call) (hcall : CallOk P env G call) : ∀ fuel,
    (∀ c st e st' ρ a w, SRel env G nt ρ st a w → evalC P G call nt fuel (.code c) st = some (e, st') → Fresh ρ st.next st'.next → c.wp P (Post env G nt ρ st w e st') a w) ∧
    (∀ c st e st' ρ a w, SRel env G nt ρ st a w → evalC P G call nt fuel (.code (.loop c)) st = some (e, st') → Fresh ρ st.next st'.next →
      ∀ b k cs, ∃ a' w', After env G nt ρ st w st' a' w' ∧ Arrives P (lone (b.at a (.code c :: .inLoop c :: k)) cs w) b k cs e.out a' w') ∧
    (∀ c l st e st' ρ a w, SRel env G nt ρ st a w → evalC P G call nt fuel (.jump c l) st = some (e, st') → Fresh ρ st.next st'.next →
      (∀ l, e ≠ .goto l) ∧ ∃ rest, findLabel c l = some rest ∧ ∀ b k cs, ∃ a' w', After env G nt ρ st w st' a' w' ∧ Arrives P (lone (b.at a (.code rest :: .inScope c :: k)) cs w) b k cs e.out a' w') := by
  intro fuel
  induction fuel with
  | zero => exact ⟨fun c st e st' ρ a w _ h => by simp [evalC] at h, fun c st e st' ρ a w _ h => by simp [evalC] at h, fun c l st e st' ρ a w _ h => by simp [evalC] at h⟩
  | succ fuel ih =>
    obtain ⟨ihc, ihl, ihj⟩ := ih
    -- leaving a scope
    have leave : ∀ {c c0 : Code} {a a1 : Act} {w w1 : World} {e : Ex} {b : Frame} {k : List Item} {cs : List Frame}, (∀ l, e ≠ .goto l) → Arrives P (lone (b.at a (.code c0 :: .inScope c :: k)) cs w) b (.inScope c :: k) cs e.out a1 w1 → Arrives P (lone (b.at a (.code c0 :: .inScope c :: k)) cs w) b k cs e.out a1 w1 := by
      intro c c0 a a1 w w1 e b k cs hne harr
      cases e with
      | normal => exact Steps.trans harr (.one step_inScope)
      | exit id => exact fun k' hk => harr k' (by simp [exitTo, hk])
      | goto l => exact absurd rfl (hne l)
      | ret => exact harr
    have loopPart : ∀ c st e st' ρ a w, SRel env G nt ρ st a w → evalC P G call nt (fuel + 1) (.code (.loop c)) st = some (e, st') → Fresh ρ st.next st'.next →
        ∀ b k cs, ∃ a' w', After env G nt ρ st w st' a' w' ∧ Arrives P (lone (b.at a (.code c :: .inLoop c :: k)) cs w) b k cs e.out a' w' := by
      intro c st e st' ρ a w hr h hf b k cs
      simp only [evalC] at h
      split at h
      · rename_i st1 h1
        have m1 := evalC_mono hmono _ _ _ _ _ h1
        have m2 := evalC_mono hmono _ _ _ _ _ h
        obtain ⟨x, a1, w1, ⟨rfl, ρ1, hr1, hg1⟩, harr⟩ := ihc c st .normal st1 ρ a w hr h1 (hf.init (by omega)) b (.inLoop c :: k) cs
        obtain ⟨a2, w2, h2, harr2⟩ := ihl c st1 e st' ρ1 a1 w1 hr1 h (hf.rest hg1) b k cs
        exact ⟨a2, w2, h2.trans hg1, .of_steps (Steps.trans harr (.one step_inLoop)) harr2⟩
      · rename_i hne
        obtain ⟨x, a1, w1, ⟨rfl, haft⟩, harr⟩ := ihc c st e st' ρ a w hr h hf b (.inLoop c :: k) cs
        refine ⟨a1, w1, haft, ?_⟩
        have hnn : e.out ≠ .normal := fun hx => by
          cases e with
          | normal => exact hne st' h
          | exit id => cases hx
          | goto l => cases hx
          | ret => cases hx
        exact .pass (x := .inLoop c) rfl (fun _ _ => .inl hnn) harr
    have jumpPart : ∀ c l st e st' ρ a w, SRel env G nt ρ st a w → evalC P G call nt (fuel + 1) (.jump c l) st = some (e, st') → Fresh ρ st.next st'.next →
        (∀ l, e ≠ .goto l) ∧ ∃ rest, findLabel c l = some rest ∧ ∀ b k cs, ∃ a' w', After env G nt ρ st w st' a' w' ∧ Arrives P (lone (b.at a (.code rest :: .inScope c :: k)) cs w) b k cs e.out a' w' := by
      intro c l st e st' ρ a w hr h hf
      simp only [evalC] at h
      split at h
      · rename_i rest hfl
        split at h
        · rename_i l' st1 h1
          have m1 := evalC_mono hmono _ _ _ _ _ h1
          have m2 := evalC_mono hmono _ _ _ _ _ h
          have hI : ∀ a1 w1 ρ1, SRel env G nt ρ1 st1 a1 w1 → Grows ρ st.heap.get st.next w ρ1 st1.heap.get st1.next w1 → _ := fun a1 w1 ρ1 hr1 hg1 => ihj c l' st1 e st' ρ1 a1 w1 hr1 h (hf.rest hg1)
          obtain ⟨x0, a0, w0, ⟨rfl, ρ0, hr0, hg0⟩, _⟩ := ihc rest st (.goto l') st1 ρ a w hr h1 (hf.init (by omega)) default [] []
          obtain ⟨hne, rest', hfl', _⟩ := hI a0 w0 ρ0 hr0 hg0
          refine ⟨hne, rest, hfl, fun b k cs => ?_⟩
          obtain ⟨x, a1, w1, ⟨rfl, ρ1, hr1, hg1⟩, harr⟩ := ihc rest st (.goto l') st1 ρ a w hr h1 (hf.init (by omega)) b (.inScope c :: k) cs
          obtain ⟨_, rest'', hfl'', hj⟩ := hI a1 w1 ρ1 hr1 hg1
          obtain ⟨a2, w2, h2, harr2⟩ := hj b k cs
          exact ⟨a2, w2, h2.trans hg1, .of_steps (harr _ (by simp [gotoIn, hfl''])) harr2⟩
        · rename_i hne
          have hne' : ∀ l, e ≠ .goto l := fun l el => hne l st' (by rw [← el]; exact h)
          refine ⟨hne', rest, hfl, fun b k cs => ?_⟩
          obtain ⟨x, a1, w1, ⟨rfl, haft⟩, harr⟩ := ihc rest st e st' ρ a w hr h hf b (.inScope c :: k) cs
          exact ⟨a1, w1, haft, leave hne' harr⟩
      · cases h
    refine ⟨?_, loopPart, jumpPart⟩
    intro c st e st' ρ a w hr h hf
    cases c <;> simp only [evalC] at h <;> first
      | (cases h; done)
      | skip
    case skip => cases h; exact wp_skip ⟨rfl, .refl hr⟩
    case label l => cases h; exact wp_label ⟨rfl, .refl hr⟩
    case exit id => cases h; exact wp_exit ⟨rfl, .refl hr⟩
    case goto l => cases h; exact wp_goto ⟨rfl, .refl hr⟩
    case ret => cases h; exact wp_ret ⟨rfl, .refl hr⟩
    case region id ops draw =>
      split at h
      · rename_i hreg
        split at h
        · rename_i st1 h1
          cases h
          cases draw with
          | true => exact hD call nt id ops st st' ρ a w hmono hcall hr hreg h1 hf
          | false =>
            have hty : ∀ o ∈ ops.toList, typedB P o.op = true := by
              simp only [regOk, Bool.and_eq_true] at hreg
              exact fun o ho => List.all_eq_true.1 hreg.1 o ho
            exact wp_region_list (evalOs_ok hE hmono hcall ops.toList st ρ a w hr hty h1 hf fun ρ' a' w' h1 h2 => ⟨rfl, ρ', h1, h2⟩)
        · cases h
      · cases h
    case seq x y =>
      split at h
      · rename_i st1 h1
        have m1 := evalC_mono hmono _ _ _ _ _ h1
        have m2 := evalC_mono hmono _ _ _ _ _ h
        refine wp_seq (wp_mono (ihc x st .normal st1 ρ a w hr h1 (hf.init (by omega))) ?_)
        rintro _ a1 w1 ⟨rfl, ρ1, hr1, hg1⟩
        exact wp_mono (ihc y st1 e st' ρ1 a1 w1 hr1 h (hf.rest hg1)) fun x a2 w2 ⟨h1, h2⟩ => ⟨h1, h2.trans hg1⟩
      · rename_i hne
        refine wp_seq (wp_mono (ihc x st e st' ρ a w hr h hf) ?_)
        rintro _ a1 w1 ⟨rfl, haft⟩
        cases e with
        | normal => exact absurd h (hne st')
        | exit id => exact ⟨rfl, haft⟩
        | goto l => exact ⟨rfl, haft⟩
        | ret => exact ⟨rfl, haft⟩
    case cond x p q =>
      split at h
      · rename_i hx
        have := toV_bool (ev_ok hr.glob hr.tmps x _ hx)
        exact wp_cond_true this (ihc p st e st' ρ a w hr h hf)
      · rename_i hx
        have := toV_bool (ev_ok hr.glob hr.tmps x _ hx)
        exact wp_cond_false this (ihc q st e st' ρ a w hr h hf)
      · cases h
    case block id x =>
      split at h
      · rename_i j st1 h1
        split at h
        · rename_i hj
          cases h
          refine wp_block (wp_mono (ihc x st (.exit j) st' ρ a w hr h1 hf) ?_)
          rintro _ a1 w1 ⟨rfl, haft⟩
          simp only [Ex.out, Exit.inBlock, hj, if_true]
          exact ⟨rfl, haft⟩
        · rename_i hj
          cases h
          refine wp_block (wp_mono (ihc x st (.exit j) st' ρ a w hr h1 hf) ?_)
          rintro _ a1 w1 ⟨rfl, haft⟩
          simp only [Ex.out, Exit.inBlock, hj, if_false]
          exact ⟨rfl, haft⟩
      · rename_i hne
        refine wp_block (wp_mono (ihc x st e st' ρ a w hr h hf) ?_)
        rintro _ a1 w1 ⟨rfl, haft⟩
        cases e with
        | normal => exact ⟨rfl, haft⟩
        | exit j => exact absurd h (hne j st')
        | goto l => exact ⟨rfl, haft⟩
        | ret => exact ⟨rfl, haft⟩
    case loop x =>
      intro b k cs
      obtain ⟨a1, w1, h1, harr⟩ := loopPart x st e st' ρ a w hr (by simpa only [evalC] using h) hf b k cs
      exact ⟨e.out, a1, w1, ⟨rfl, h1⟩, .of_steps (.one step_loop) harr⟩
    case scope x =>
      intro b k cs
      split at h
      · rename_i l st1 h1
        have m1 := evalC_mono hmono _ _ _ _ _ h1
        have m2 := evalC_mono hmono _ _ _ _ _ h
        obtain ⟨y, a1, w1, ⟨rfl, ρ1, hr1, hg1⟩, harr⟩ := ihc x st (.goto l) st1 ρ a w hr h1 (hf.init (by omega)) b (.inScope x :: k) cs
        obtain ⟨_, rest, hfl, hj⟩ := ihj x l st1 e st' ρ1 a1 w1 hr1 h (hf.rest hg1)
        obtain ⟨a2, w2, h2, harr2⟩ := hj b k cs
        refine ⟨e.out, a2, w2, ⟨rfl, h2.trans hg1⟩, .of_steps (.head step_scope ?_) harr2⟩
        exact harr _ (by simp [gotoIn, hfl])
      · rename_i hne
        obtain ⟨y, a1, w1, ⟨rfl, haft⟩, harr⟩ := ihc x st e st' ρ a w hr h hf b (.inScope x :: k) cs
        exact ⟨e.out, a1, w1, ⟨rfl, haft⟩, .of_steps (.one step_scope) (leave (fun l el => hne l st' (by rw [← el]; exact h)) harr)⟩
end
end Go.Rx
