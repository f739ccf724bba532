/- A region that draws its order and in which one operation, which all others precede, is met by a law of its own (the call of yield). -/
import Derived.Test.YtcigdhmecfhndaaFh
import Derived.Test.YtcigdhmecfhndaaWords
namespace Go.Proofs.Ytcigdhmecfhndaa
open Go.RowKit

section
variable {P : Program} {ops : Array Oper} {Q : Exit → Act → World → Prop} {md : Region.Mode} {S : World → Prop} {t : Nat} {T : (Act → World → Prop) → Act → World → Prop}

theorem oper_wide {P : Program} {o : Oper} {a : Act} {w : World} {K : Act → World → Prop} {Q : Exit → Act → World → Prop} (n : Nat) (h : o.wp P a w K Q) : o.wpIn Fence.wide n P a w K Q := by
  refine ⟨fun _ _ => trivial, ?_⟩
  rw [show Fence.wide.round = none from rfl, Oper.semAt_none]
  unfold Oper.wp at h
  generalize (execOp a.eval o).run P w = r at *
  have hdep : Fence.wide.depth.isSome = true → 1 ≤ n := fun e => by simp [Fence.wide] at e
  cases r with
  | ok x w' =>
    cases x <;> simp only [Oper.upon, Oper.uponIn] at h ⊢ <;> first
      | exact h
      | exact ⟨hdep, callsIn_wide.2 h⟩
      | exact ⟨hdep, fun c cs _ => by
          obtain ⟨v, w', r, s⟩ := h c cs
          exact ⟨v, w', r, stepsIn_wide.2 s⟩⟩
  | halt x w' => cases x <;> simp only [Oper.upon, Oper.uponIn] at h ⊢ <;> exact h
theorem wpOp_wide (n : Nat) (hno : ¬ LetsOut Q) {i : Nat} {K : Act → World → Prop} {a : Act} {w : World} (h : wpOp P ops Q i K a w) : wpOpIn Fence.wide n P ops Q i K a w := by
  unfold wpOp at h
  unfold wpOpIn
  cases ho : ops[i]? with
  | none => simp only [ho] at h ⊢; exact h
  | some o =>
    simp only [ho] at h ⊢
    by_cases hw : Region.wanted o (yielded ops a.tmps) = true
    · rw [if_pos hw] at h ⊢
      rcases h with h | h
      · exact oper_wide n h
      · exact absurd h.2 hno
    · rw [if_neg hw] at h ⊢
      exact ⟨fun _ _ => trivial, h⟩

/-- whatever order is picked; number t by T; S holds behind every other operation -/
def wpAnyX (P : Program) (md : Region.Mode) (ops : Array Oper) (Q : Exit → Act → World → Prop) (S : World → Prop) (t : Nat) (T : (Act → World → Prop) → Act → World → Prop) : Nat → Array Bool → Act → World → Prop
  | 0, listed, a, w => Region.ready md ops listed = [] ∧ Q .normal a w
  | fuel + 1, listed, a, w =>
    (Region.ready md ops listed = [] → Q .normal a w) ∧
    ∀ i ∈ Region.ready md ops listed, (i = t → T (wpAnyX P md ops Q S t T fuel (listed.setIfInBounds i true)) a w) ∧
      (i ≠ t → wpOp P ops Q i (fun a' w' => S w' ∧ wpAnyX P md ops Q S t T fuel (listed.setIfInBounds i true) a' w') a w)
theorem wpAnyIn_of_X (hno : ¬ LetsOut Q) : ∀ (fuel : Nat) (listed : Array Bool) (a : Act) (w : World), wpAnyX P md ops Q S t (fun K a w => wpOpIn Fence.wide 0 P ops Q t K a w) fuel listed a w → wpAnyIn Fence.wide 0 P md ops Q fuel listed a w
  | 0, _, _, _, h => h
  | fuel + 1, _, _, _, h => ⟨h.1, fun i hi => by
    by_cases e : i = t
    · have h1 := (h.2 i hi).1 e
      rw [show wpOpIn Fence.wide 0 P ops Q i = wpOpIn Fence.wide 0 P ops Q t by rw [e]]
      exact wpOpIn_mono (fun a' w' h' => wpAnyIn_of_X hno fuel _ a' w' h') h1
    · exact wpOpIn_mono (fun a' w' h' => wpAnyIn_of_X hno fuel _ a' w' h'.2) (wpOp_wide 0 hno ((h.2 i hi).2 e))⟩

/-- number t waits for number i, by a chain of others none of which has been taken -/
def chainB (md : Region.Mode) (ops : Array Oper) (listed : Array Bool) (t : Nat) : Nat → Nat → Bool
  | 0, i => waitsB md ops t i
  | n + 1, i => waitsB md ops t i || (List.range ops.size).any fun x => waitsB md ops x i && !listed.getD x false && chainB md ops listed t n x
def waits2 (md : Region.Mode) (ops : Array Oper) (listed : Array Bool) (t i : Nat) : Bool := chainB md ops listed t 3 i
theorem not_ready {x i : Nat} {listed : Array Bool} (hw : waitsB md ops x i = true) (hu : listed.getD i false = false) : x ∉ Region.ready md ops listed := by
  obtain ⟨o, e, ho, he, hb, hi⟩ := waitsB_spec hw
  intro hx
  obtain ⟨_, oj, hoj, hall⟩ := mem_ready.1 hx
  rw [ho] at hoj
  injection hoj with hoj
  subst hoj
  have h1 := hall e he hb
  rw [hi] at h1
  rcases Nat.lt_or_ge i listed.size with h' | h'
  · simp [h'] at hu h1; rw [hu] at h1; cases h1
  · simp [Array.getElem?_eq_none h'] at h1

theorem chain_not {listed : Array Bool} : ∀ (n i : Nat), chainB md ops listed t n i = true → listed.getD i false = false → t ∉ Region.ready md ops listed
  | 0, i, h, hu => not_ready h hu
  | n + 1, i, h, hu => by
    rw [chainB, Bool.or_eq_true] at h
    rcases h with h | h
    · exact not_ready h hu
    · rw [List.any_eq_true] at h
      obtain ⟨x, _, h⟩ := h
      simp only [Bool.and_eq_true, Bool.not_eq_true'] at h
      exact chain_not n x h.2 h.1.2
theorem chain_set {listed : Array Bool} {j : Nat} (hj : j ∈ Region.ready md ops listed) : ∀ (n i : Nat), chainB md ops listed t n i = true → listed.getD i false = false → chainB md ops (listed.setIfInBounds j true) t n i = true
  | 0, i, h, _ => h
  | n + 1, i, h, hu => by
    rw [chainB, Bool.or_eq_true] at h ⊢
    rcases h with h | h
    · exact .inl h
    · right
      rw [List.any_eq_true] at h ⊢
      obtain ⟨x, hx, h⟩ := h
      simp only [Bool.and_eq_true, Bool.not_eq_true'] at h
      have hxj : j ≠ x := fun e => not_ready h.1.1 hu (e ▸ hj)
      refine ⟨x, hx, ?_⟩
      simp only [Bool.and_eq_true, Bool.not_eq_true']
      refine ⟨⟨h.1.1, ?_⟩, chain_set hj n x h.2 h.1.2⟩
      rw [Array.getD_eq_getD_getElem?, Array.getElem?_setIfInBounds_ne hxj, ← Array.getD_eq_getD_getElem?]; exact h.1.2

theorem wpAnyX_first {i : Nat} {oi : Oper} {v : Value} (hi : ops[i]? = some oi) (hsel : ∀ (j : Nat) (o : Oper) cs b, ops[j]? = some o → o.op ≠ .select cs b)
    (hQ : ∀ c a w, Q (.panic c) (a.put oi.dst v) w → Q (.panic c) a w) (hit : i ≠ t) :
    ∀ (fuel : Nat) (listed : Array Bool) (a : Act) (w : World), waits2 md ops listed t i = true →
      (∀ j oj, ops[j]? = some oj → j ≠ i → listed.getD j true = false → (∀ e ∈ oj.after, Region.binds md e = true → e.on ≠ i) → oi.apart ops oj = true) →
      i ∈ Region.ready md ops listed → YieldsIf P ops S oi v a → S w →
      wpAnyX P md ops Q S t T fuel (listed.setIfInBounds i true) (a.put oi.dst v) w → wpAnyX P md ops Q S t T (fuel + 1) listed a w := by
  intro fuel
  induction fuel with
  | zero =>
    intro listed a w _ _ hr hy hS H
    refine ⟨fun h => (by rw [h] at hr; cases hr), fun j hj => ?_⟩
    by_cases hji : j = i
    · subst hji; exact ⟨fun e => absurd e hit, fun _ => hy.wpOp hi hS ⟨hS, H⟩⟩
    · have := ready_mono hj hji
      rw [H.1] at this
      cases this
  | succ fuel ih =>
    intro listed a w hw hfree hr hy hS H
    refine ⟨fun h => (by rw [h] at hr; cases hr), fun j hj => ?_⟩
    by_cases hji : j = i
    · subst hji; exact ⟨fun e => absurd e hit, fun _ => hy.wpOp hi hS ⟨hS, H⟩⟩
    · have h1 := H.2 j (ready_mono hj hji)
      have hiu : listed.getD i false = false := by
        have h0 := (mem_ready.1 hr).1
        rcases Nat.lt_or_ge i listed.size with h' | h'
        · simp [h'] at h0 ⊢; exact h0
        · simp [h']
      obtain ⟨hjun, oj, hoj, hall⟩ := mem_ready.1 hj
      have hnot : ∀ e ∈ oj.after, Region.binds md e = true → e.on ≠ i := fun e he hb heq => by
        have h1 := hall e he hb
        have h0 := (mem_ready.1 hr).1
        rw [heq] at h1
        rcases Nat.lt_or_ge i listed.size with h' | h'
        · simp [h'] at h0 h1; rw [h0] at h1; cases h1
        · simp [Array.getElem?_eq_none h'] at h1
      have hjt : j ≠ t := fun e => chain_not 3 i hw hiu (e ▸ hj)
      have hwn : waits2 md ops (listed.setIfInBounds j true) t i = true := chain_set hj 3 i hw hiu
      have h2 := wpOp_putIf hoj (hfree j oj hoj hji hjun hnot) (fun cs b => hsel i oi cs b hi) (fun cs b => hsel j oj cs b hoj) hQ hy (h1.2 hjt)
      have hfree' : ∀ k ok, ops[k]? = some ok → k ≠ i → (listed.setIfInBounds j true).getD k true = false →
          (∀ e ∈ ok.after, Region.binds md e = true → e.on ≠ i) → oi.apart ops ok = true := fun k ok hk hki hun hno => by
        refine hfree k ok hk hki ?_ hno
        by_cases hjk : j = k
        · subst hjk; exact hjun
        · rw [getD_set_ne true hjk] at hun; exact hun
      refine ⟨fun e => absurd e hjt, fun _ => wpOp_mono (fun a' w' h3 => ⟨h3.2.1, ih (listed.setIfInBounds j true) a' w' hwn hfree' (ready_mono hr (Ne.symm hji)) h3.1 h3.2.1 ?_⟩) h2⟩
      rw [Array.setIfInBounds_comm _ _ hji]
      exact h3.2.2
theorem wpAnyX_take {i : Nat} {oi : Oper} {v : Value} {fuel : Nat} {listed : Array Bool} {a : Act} {w : World} (hi : ops[i]? = some oi)
    (hs : Region.noSelect ops = true) (hf : Region.free md ops listed i = true) (hr : (Region.ready md ops listed).contains i = true) (hit : i ≠ t) (hw : waits2 md ops listed t i = true)
    (hQ : ∀ c a w, Q (.panic c) (a.put oi.dst v) w → Q (.panic c) a w) (hy : YieldsIf P ops S oi v a) (hS : S w)
    (h : wpAnyX P md ops Q S t T fuel (listed.setIfInBounds i true) (a.put oi.dst v) w) : wpAnyX P md ops Q S t T (fuel + 1) listed a w :=
  wpAnyX_first hi (Region.noSelect_spec hs) hQ hit fuel listed a w hw (Region.free_spec hi hf) (by simpa using hr) hy hS h
/-- one operation alone may come up, and it is not number t -/
theorem wpAnyX_one {i : Nat} {o : Oper} {fuel : Nat} {listed : Array Bool} {a : Act} {w : World} (hr : Region.ready md ops listed = [i]) (hit : i ≠ t) (ho : ops[i]? = some o)
    (h : ∀ K' : Act → World → Prop, Shut (∀ a w, S w → (S w → wpAnyX P md ops Q S t T fuel (listed.setIfInBounds i true) a w) → K' a w) → if Region.wanted o (yielded ops a.tmps) = true then Oper.wp P o a w K' Q else K' (a.put o.dst undef) w) :
    wpAnyX P md ops Q S t T (fuel + 1) listed a w := ⟨fun h0 => (by rw [hr] at h0; cases h0), fun j hj => by
  rw [hr] at hj
  obtain rfl : j = i := by simpa using hj
  exact ⟨fun e => absurd e hit, fun _ => wpOp_step ho (fun K' hK => h K' (fun a w hS hW => hK a w ⟨hS, hW hS⟩))⟩⟩
/-- number t alone -/
theorem wpAnyX_t {fuel : Nat} {listed : Array Bool} {a : Act} {w : World} (hr : Region.ready md ops listed = [t])
    (h : T (wpAnyX P md ops Q S t T fuel (listed.setIfInBounds t true)) a w) : wpAnyX P md ops Q S t T (fuel + 1) listed a w := ⟨fun h0 => (by rw [hr] at h0; cases h0), fun j hj => by
  rw [hr] at hj
  obtain rfl : j = t := by simpa using hj
  exact ⟨fun _ => h, fun e => absurd rfl e⟩⟩
theorem wpAnyX_done {listed : Array Bool} {a : Act} {w : World} (hr : Region.ready md ops listed = []) (h : Q .normal a w) :
    ∀ fuel, wpAnyX P md ops Q S t T fuel listed a w
  | 0 => ⟨hr, h⟩
  | _ + 1 => ⟨fun _ => h, by rw [hr]; simp⟩
theorem wp_region_X {id : Nat} {a : Act} {w : World} (t : Nat) (hm : P.follows .mixedOrders = true) (hno : ¬ LetsOut Q) (hS : S w.drew)
    (h : S w.drew → wpAnyX P .any ops Q S t (fun K a w => wpOpIn Fence.wide 0 P ops Q t K a w) ops.size (Array.replicate ops.size false) a w.drew) : (Code.region id ops true).wp P Q a w :=
  (wpIn_wide (n := 0)).1 (wpIn_region_any hm (wpAnyIn_of_X hno _ _ _ _ (h hS)))
end

end Go.Proofs.Ytcigdhmecfhndaa
