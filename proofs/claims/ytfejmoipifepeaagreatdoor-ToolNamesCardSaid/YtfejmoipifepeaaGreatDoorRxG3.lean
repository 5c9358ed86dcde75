/- Regions whose order is drawn: what the checks say. -/
import Derived.Test.YtfejmoipifepeaaGreatDoorRxG2
import Derived.Orders
set_option linter.unusedSimpArgs false
set_option linter.unusedVariables false
set_option linter.unusedSectionVars false
namespace Go.Rx

theorem eqB_ok {a b : List UInt8} (h : eqB a b = true) : a = b := by rw [eqB_eq] at h; simpa using h

mutual
theorem eqAV_ok (a b : AV) (h : eqAV a b = true) : a = b := by
  unfold eqAV at h
  split at h <;> first
    | (cases h; done)
    | skip
  all_goals try simp only [Bool.and_eq_true, Nat.beq_eq, beq_iff_eq, decide_eq_true_eq] at h
  all_goals first
    | rfl
    | (subst h; rfl)
    | skip
  · rw [h.1, h.2]
  · rw [eqB_ok h]
  · rw [h.1, h.2]
  · rw [h.1.1, h.1.2, h.2]
  · rw [h.1.1.1.1, h.1.1.1.2, h.1.1.2, h.1.2, h.2]
  · rename_i f a b g c d; rw [h.1.1, eqAVs_ok a c h.1.2, eqAVs_ok b d h.2]
  · rename_i s a t b; rw [h.1, eqAV_ok a b h.2]
  · rename_i a b; rw [eqAVs_ok a b h]
  · rename_i a b; rw [eqAVs_ok a b h]
  · rw [eqSegs_ok h]
  · rw [h.1.1.1, h.1.1.2, h.1.2, h.2]
theorem eqAVs_ok (a b : List AV) (h : eqAVs a b = true) : a = b := by
  unfold eqAVs at h
  split at h <;> first
    | (cases h; done)
    | skip
  · rfl
  · rename_i a x b y
    simp only [Bool.and_eq_true] at h
    rw [eqAV_ok a b h.1, eqAVs_ok x y h.2]
end

theorem sameR_ok {r : Option AV} {v : AV} (h : sameR r v = true) : r = some v := by
  unfold sameR at h
  split at h
  · rw [eqAV_ok _ _ h]
  · cases h

section
variable {P : Program} {G : Cfg} {nt : Nat} {call : CallFn} {ops : Array Oper}

theorem evalTr_spec : ∀ {l : List Oper} {st e : St} {tr : List St}, evalTr P G call nt ops l st = some (tr, e) →
    tr[0]? = some st ∧ tr[l.length]? = some e ∧ ∀ i o, l[i]? = some o → ∃ s s', tr[i]? = some s ∧ tr[i + 1]? = some s' ∧ stepA P G call nt ops o s = some s'
  | [], st, e, tr, h => by simp [evalTr] at h; rw [← h.1, ← h.2]; simp
  | o :: l, st, e, tr, h => by
    simp only [evalTr] at h
    split at h
    · rename_i st1 h1
      split at h
      · rename_i r e' h2
        cases h
        obtain ⟨a, b, c⟩ := evalTr_spec h2
        refine ⟨by simp, by simpa using b, fun i o' ho => ?_⟩
        cases i with
        | zero => simp at ho; subst ho; exact ⟨st, st1, by simp, by simpa using a, h1⟩
        | succ i => simpa using c i o' (by simpa using ho)
      · cases h
    · cases h

/- What must come ahead of what, as far as the checks hold. -/
structure Plan (P : Program) (ops : Array Oper) (anc : Nat → Nat → Bool) : Prop where
  edge : ∀ (i : Nat) (o : Oper) (e : Edge), ops[i]? = some o → e ∈ o.after → Region.binds .any e = true → e.on < i
  ahead : ∀ i j (S : Nat → Prop), anc i j = true → (∀ k o e, ops[k]? = some o → S k → e ∈ o.after → Region.binds .any e = true → S e.on) → i < ops.size → S i → S j
  dst : ∀ (j i : Nat) (oj oi : Oper) (d : Tmp), j < i → ops[j]? = some oj → ops[i]? = some oi → oj.dst = some d → oi.dst ≠ some d
  tmp1 : ∀ (j i : Nat) (oj oi : Oper) (d : Tmp), j < i → ops[j]? = some oj → ops[i]? = some oi → anc i j = false → oj.dst = some d → d ∉ readsOf ops oi
  tmp2 : ∀ (j i : Nat) (oj oi : Oper) (d : Tmp), j < i → ops[j]? = some oj → ops[i]? = some oi → anc i j = false → oi.dst = some d → d ∉ readsOf ops oj
  mem : ∀ (j i : Nat) (oj oi : Oper), j < i → ops[j]? = some oj → ops[i]? = some oi → anc i j = false → 3 ≤ kindOf P oi.op → 2 ≤ kindOf P oj.op → False

theorem ancOf_bits {acc : List Nat} {j : Nat} : ∀ {es : List Edge} {s : Nat}, (es.foldl (fun s e => if Region.binds .any e then s ||| 2 ^ e.on ||| acc.getD e.on 0 else s) s).testBit j = true →
    s.testBit j = true ∨ ∃ e ∈ es, Region.binds .any e = true ∧ (j = e.on ∨ (acc.getD e.on 0).testBit j = true)
  | [], s, h => .inl h
  | e :: es, s, h => by
    simp only [List.foldl_cons] at h
    rcases ancOf_bits h with h | ⟨e', he, hb, hj⟩
    · split at h
      · rename_i hb
        simp only [Nat.testBit_or, Bool.or_eq_true, Nat.testBit_two_pow, decide_eq_true_eq] at h
        rcases h with (h | h) | h
        · exact .inl h
        · exact .inr ⟨e, by simp, hb, .inl h.symm⟩
        · exact .inr ⟨e, by simp, hb, .inr h⟩
      · exact .inl h
    · exact .inr ⟨e', by simp [he], hb, hj⟩

theorem ancsGo_acc : ∀ {l : List Oper} {acc : List Nat} {i : Nat}, i < acc.length → (ancsGo l acc)[i]? = acc[i]?
  | [], acc, i, _ => rfl
  | o :: l, acc, i, h => by
    simp only [ancsGo]
    rw [ancsGo_acc (by simp; omega), List.getElem?_append_left h]

theorem ancsGo_length : ∀ {l : List Oper} {acc : List Nat}, (ancsGo l acc).length = acc.length + l.length
  | [], acc => by simp [ancsGo]
  | o :: l, acc => by simp only [ancsGo]; rw [ancsGo_length]; simp; omega

def AncGood (ops : Array Oper) (acc : List Nat) : Prop := ∀ i j (S : Nat → Prop), (acc.getD i 0).testBit j = true → (∀ k o e, ops[k]? = some o → S k → e ∈ o.after → Region.binds .any e = true → S e.on) → S i → S j

theorem ancsGo_good : ∀ {l pre : List Oper} {acc : List Nat}, ops.toList = pre ++ l → acc.length = pre.length → AncGood ops acc → AncGood ops (ancsGo l acc)
  | [], pre, acc, _, _, h => h
  | o :: l, pre, acc, he, hl, h => by
    simp only [ancsGo]
    have ho : ops[acc.length]? = some o := by
      rw [← Array.getElem?_toList, he, hl]; simp
    refine ancsGo_good (pre := pre ++ [o]) (by simp [he]) (by simp [hl]) fun i j S hb hS hi => ?_
    rcases Nat.lt_trichotomy i acc.length with hlt | heq | hgt
    · rw [List.getD_eq_getElem?_getD, List.getElem?_append_left hlt, ← List.getD_eq_getElem?_getD] at hb
      exact h i j S hb hS hi
    · subst heq
      simp only [List.getD_eq_getElem?_getD, List.getElem?_append_right (Nat.le_refl _), Nat.sub_self, List.getElem?_cons_zero, Option.getD_some] at hb
      rcases ancOf_bits hb with hb | ⟨e, hem, hbind, hj⟩
      · simp at hb
      · have hSe := hS _ o e ho hi (by simpa using hem) hbind
        rcases hj with hj | hj
        · rw [hj]; exact hSe
        · exact h e.on j S hj hS hSe
    · have : (acc ++ [ancOf acc o.after.toList]).getD i 0 = 0 := by
        rw [List.getD_eq_getElem?_getD, List.getElem?_eq_none (by simp; omega)]; rfl
      rw [this] at hb; simp at hb

theorem sums_get : ∀ {l : List Oper} {as : List Nat} {i : Nat} {o : Oper} {a : Nat}, l[i]? = some o → as[i]? = some a → (sums P ops l as)[i]? = some ⟨kindOf P o.op, readsOf ops o, o.dst, a⟩
  | [], _, _, _, _, h, _ => by simp at h
  | _ :: _, [], _, _, _, _, h => by simp at h
  | p :: l, b :: as, 0, o, a, h1, h2 => by simp at h1 h2; subst h1; subst h2; simp [sums]
  | p :: l, b :: as, i + 1, o, a, h1, h2 => by simp only [sums]; simpa using sums_get (i := i) (by simpa using h1) (by simpa using h2)

theorem rowOk_spec {x : OpSum} : ∀ {l : List OpSum} {k : Nat}, rowOk x l k = true → ∀ j y, l[j]? = some y → pairOk y.kind x.kind y.reads x.reads y.dst x.dst (x.anc.testBit (k + j)) = true
  | [], _, _, j, y, h => by simp at h
  | z :: l, k, h, j, y, hy => by
    simp only [rowOk, Bool.and_eq_true] at h
    cases j with
    | zero => simp at hy; subst hy; exact h.1
    | succ j =>
      have := rowOk_spec h.2 j y (by simpa using hy)
      rw [show k + (j + 1) = k + 1 + j by omega]; exact this

theorem pairsOk_spec : ∀ {l done : List OpSum}, pairsOk done l = true → ∀ i j x y, l[i]? = some x → (done ++ l)[j]? = some y → j < done.length + i → pairOk y.kind x.kind y.reads x.reads y.dst x.dst (x.anc.testBit j) = true
  | [], _, _, i, j, x, y, h, _, _ => by simp at h
  | z :: l, done, h, i, j, x, y, hx, hy, hlt => by
    simp only [pairsOk, Bool.and_eq_true] at h
    cases i with
    | zero =>
      simp at hx; subst hx
      have := rowOk_spec h.1 j y (by rw [List.getElem?_append_left (by omega)] at hy; exact hy)
      simpa using this
    | succ i => exact pairsOk_spec h.2 i j x y (by simpa using hx) (by simpa using hy) (by simp; omega)

theorem edgesOk_spec : ∀ {l : List Oper} {k : Nat}, edgesOk l k = true → ∀ i o e, l[i]? = some o → e ∈ o.after → Region.binds .any e = true → e.on < k + i
  | [], _, _, i, o, e, h, _, _ => by simp at h
  | p :: l, k, h, i, o, e, ho, he, hb => by
    simp only [edgesOk, Bool.and_eq_true] at h
    cases i with
    | zero =>
      simp at ho; subst ho
      have := List.all_eq_true.1 h.1 e (by simpa using he)
      simpa [hb, Nat.blt_eq] using this
    | succ i =>
      have := edgesOk_spec h.2 i o e (by simpa using ho) he hb
      omega

theorem inL_spec {d : Nat} {l : List Nat} (h : inL (some d) l = false) : d ∉ l := by
  intro hm
  simp only [inL, List.any_eq_false] at h
  exact h d hm (by simp)

theorem plan_of (h : drawOk P ops = true) : Plan P ops (fun i j => ((ancsGo ops.toList []).getD i 0).testBit j) := by
  simp only [drawOk, Bool.and_eq_true] at h
  have hpair : ∀ j i oj oi, j < i → ops[j]? = some oj → ops[i]? = some oi →
      pairOk (kindOf P oj.op) (kindOf P oi.op) (readsOf ops oj) (readsOf ops oi) oj.dst oi.dst (((ancsGo ops.toList []).getD i 0).testBit j) = true := by
    intro j i oj oi hlt hj hi
    have hilt : i < ops.toList.length := by simpa using (Array.getElem?_eq_some_iff.1 hi).1
    have hlen : (ancsGo ops.toList []).length = ops.toList.length := by rw [ancsGo_length]; simp
    have hs : ∀ k o, ops[k]? = some o → k ≤ i → (sums P ops ops.toList (ancsGo ops.toList []))[k]? = some ⟨kindOf P o.op, readsOf ops o, o.dst, (ancsGo ops.toList []).getD k 0⟩ := fun k o hk hle =>
      sums_get (by rw [Array.getElem?_toList]; exact hk) (by rw [List.getD_eq_getElem?_getD, List.getElem?_eq_getElem (by omega)]; rfl)
    exact pairsOk_spec h.2 i j _ _ (hs i oi hi (by omega)) (by simpa using hs j oj hj (by omega)) (by simpa using hlt)
  refine ⟨fun i o e ho he hb => by simpa using edgesOk_spec h.1 i o e (by simpa using ho) he hb, fun i j S hb hS _ hi => ?_, ?_, ?_, ?_, ?_⟩
  · exact ancsGo_good (pre := []) (by simp) rfl (fun i j S hb => by simp at hb) i j S hb hS hi
  · intro j i oj oi d hlt hj hi hd hd'
    have := hpair j i oj oi hlt hj hi
    simp [pairOk, hd, hd', sameDst] at this
  · intro j i oj oi d hlt hj hi ha hd
    have := hpair j i oj oi hlt hj hi
    simp only [pairOk, ha, hd, Bool.false_or, Bool.and_eq_true, Bool.not_eq_true', Bool.or_eq_false_iff] at this
    exact inL_spec this.2.1.2
  · intro j i oj oi d hlt hj hi ha hd
    have := hpair j i oj oi hlt hj hi
    simp only [pairOk, ha, hd, Bool.false_or, Bool.and_eq_true, Bool.not_eq_true', Bool.or_eq_false_iff] at this
    exact inL_spec this.2.2
  · intro j i oj oi hlt hj hi ha h3 h2
    have := hpair j i oj oi hlt hj hi
    simp only [pairOk, ha, Bool.false_or, Bool.and_eq_true, Bool.not_eq_true', Bool.or_eq_false_iff] at this
    have h3' : Nat.ble 3 (kindOf P oi.op) = true := by rw [Nat.ble_eq]; exact h3
    have h2' : Nat.ble 2 (kindOf P oj.op) = true := by rw [Nat.ble_eq]; exact h2
    rw [h3', h2'] at this
    simp at this

/- A look at memory, wherever it's done. -/
structure Look (P : Program) (G : Cfg) (ops : Array Oper) (anc : Nat → Nat → Bool) (sts : Nat → St) (i : Nat) (o : Oper) (v : AV) : Prop where
  here : evalR P (opd G (sts i).tmps) (sts i).heap o.op = some v
  before : ∀ m om, ops[m]? = some om → m < i → 2 ≤ kindOf P om.op → anc i m = false → evalR P (opd G (sts i).tmps) (sts m).heap o.op = some v
  behind : ∀ m om, ops[m]? = some om → i < m → 3 ≤ kindOf P om.op → anc m i = false → evalR P (opd G (sts i).tmps) (sts (m + 1)).heap o.op = some v

theorem looks_of {tr : List St} {sts : Nat → St} (hsts : ∀ i, i ≤ ops.size → tr[i]? = some (sts i)) (h : readsOk P G ops tr = true) : ∀ i o, ops[i]? = some o → kindOf P o.op = 1 → wantedA ops (sts i).tmps o = some true →
    ∃ v, Look P G ops (fun i j => ((ancsGo ops.toList []).getD i 0).testBit j) sts i o v := by
  intro i o ho hk hw
  have hilt : i < ops.size := (Array.getElem?_eq_some_iff.1 ho).1
  have hlen : (ancsGo ops.toList []).length = ops.toList.length := by rw [ancsGo_length]; simp
  have hs : ∀ (k : Nat) (o : Oper), ops[k]? = some o → (sums P ops ops.toList (ancsGo ops.toList []))[k]? = some (⟨kindOf P o.op, readsOf ops o, o.dst, (ancsGo ops.toList []).getD k 0⟩ : OpSum) := fun k o hk => by
    have : k < ops.toList.length := by simpa using (Array.getElem?_eq_some_iff.1 hk).1
    exact sums_get (by rw [Array.getElem?_toList]; exact hk) (by rw [List.getD_eq_getElem?_getD, List.getElem?_eq_getElem (by omega)]; rfl)
  have h1 := List.all_eq_true.1 h i (List.mem_range.2 hilt)
  have hb1 : Nat.beq (kindOf P o.op) 1 = true := by rw [hk]; rfl
  simp only [hs i o ho, ho, hsts i (by omega), hb1, hw] at h1
  unfold readOk at h1
  split at h1
  · cases h1
  · rename_i v hv
    refine ⟨v, hv, fun m om hm hlt hk2 ha => ?_, fun m om hm hlt hk3 ha => ?_⟩
    · have hmlt : m < ops.size := (Array.getElem?_eq_some_iff.1 hm).1
      have h2 := List.all_eq_true.1 h1 m (List.mem_range.2 hmlt)
      have hb : Nat.blt m i = true := by simpa [Nat.blt_eq] using hlt
      have hk' : Nat.ble (kindOf P om.op) 1 = false := by rw [Bool.eq_false_iff]; intro e; rw [Nat.ble_eq] at e; omega
      simp only [hs m om hm, hb, hk', ha, Bool.false_or, hsts m (by omega)] at h2
      exact sameR_ok h2
    · have hmlt : m < ops.size := (Array.getElem?_eq_some_iff.1 hm).1
      have h2 := List.all_eq_true.1 h1 m (List.mem_range.2 hmlt)
      have hb : Nat.blt m i = false := by rw [Bool.eq_false_iff]; intro e; rw [Nat.blt_eq] at e; omega
      have hk' : Nat.ble (kindOf P om.op) 2 = false := by rw [Bool.eq_false_iff]; intro e; rw [Nat.ble_eq] at e; omega
      simp only [hs m om hm, hb, hk', ha, Bool.false_or, hsts (m + 1) (by omega)] at h2
      exact sameR_ok h2
end
end Go.Rx
