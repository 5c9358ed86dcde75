/- The executor is right: operations that turn memory. -/
import Derived.Test.YtfejmoipifepeaaGreatDoorRxF2
set_option linter.unusedSimpArgs false
set_option linter.unusedVariables false
set_option linter.unusedSectionVars false
namespace Go.Rx
section
variable {P : Program} {env : Env} {ρ : Ren} {ev : Ev} {f : Operand → Value} {o : Oper} {t t' : T AObj} {w : World} {n n' : Nat}

theorem run_setObj {r : Nat} {es : Array MapEntry} {c : Nat} (h : w.heap[r]? = some (.map es c)) (x : Obj) : (setObj r x).run P w = .ok () { w with heap := w.heap.setIfInBounds r x } := by
  simp [setObj, Sem.run, h]

theorem set_heap {r : Nat} {y : Obj} (h : w.heap[r]? = some y) (x : Obj) :
    (({ w with heap := w.heap.setIfInBounds r x } : World).heap[r]? = some x) ∧ (∀ b, b ≠ r → ({ w with heap := w.heap.setIfInBounds r x } : World).heap[b]? = w.heap[b]?) ∧ ({ w with heap := w.heap.setIfInBounds r x } : World).heap.size = w.heap.size := by
  have hlt : r < w.heap.size := (Array.getElem?_eq_some_iff.1 h).1
  refine ⟨by simp [hlt], fun b hb => ?_, by simp⟩
  simp only [Array.getElem?_setIfInBounds]
  rw [if_neg (fun e => hb e.symm)]

/- A map's object in another one's place. -/
theorem rep_map (r : Rep env ρ t.get w) {id : Nat} {l l' : List (AV × AV × Nat)} {c c' : Nat} (hg : t.get id = some (.map l c)) {p : Place} (hp : ρ id = some p) {es es' : Array MapEntry} (he : w.heap[p.block]? = some (.map es c))
    (hl : es'.size = l'.length) (hpt : ∀ (i : Nat) (x v : AV) (b : Nat), l'[i]? = some (x, v, b) → ∃ X V, es'[i]? = some (⟨X, V, b⟩ : MapEntry) ∧ x.toV env ρ = some X ∧ v.toV env ρ = some V) (n : Nat)
    (ht : T.put K t id (some (.map l' c')) = some t') :
    Rep env ρ t'.get { w with heap := w.heap.setIfInBounds p.block (.map es' c') } ∧ Grows ρ t.get n w ρ t'.get n { w with heap := w.heap.setIfInBounds p.block (.map es' c') } := by
  obtain ⟨h1, h2, h3⟩ := set_heap he (.map es' c')
  rw [HF.get_put ht]
  exact rep_set r hg hp h1 ⟨es', rfl, hl, hpt⟩ h2 h3 rfl rfl rfl

theorem findA_range {k : AV} : ∀ {l : List (AV × AV × Nat)} {i j : Nat} {v : AV}, findA k l i = some (some (j, v)) → i ≤ j ∧ j < i + l.length
  | [], i, j, v, h => by simp [findA] at h
  | (x, u, b) :: l, i, j, v, h => by
    simp only [findA] at h
    split at h
    · split at h
      · split at h
        · cases h; simp
        · have := findA_range h; simp; omega
      · cases h
    · split at h
      · cases h; simp
      · have := findA_range h; simp; omega
    · cases h

theorem sameBits_key {k x : AV} {K' X : Value} (hk : k.toV env ρ = some K') (hx : x.toV env ρ = some X) {l : List (AV × AV × Nat)} {i j : Nat} {v u : AV} {b : Nat}
    (h : findA k l i = some (some (j, v))) (hj : l[j - i]? = some (x, u, b)) : Instr.sameBits 10000 X K' = true := by
  induction l generalizing i with
  | nil => simp [findA] at h
  | cons e l ih =>
    obtain ⟨y, v', b'⟩ := e
    simp only [findA] at h
    have hr : ∀ {q}, findA k l (i + 1) = some (some (j, q)) → (((y, v', b') :: l)[j - i]? = some (x, u, b)) → l[j - (i + 1)]? = some (x, u, b) := by
      intro q hq hj
      have := findA_range hq
      obtain ⟨m, hm⟩ : ∃ m, j - i = m + 1 := ⟨j - i - 1, by omega⟩
      rw [hm] at hj
      have e2 : j - (i + 1) = m := by omega
      rw [e2]; simpa using hj
    split at h
    · split at h
      · rename_i a a' hkk
        split at h
        · rename_i hab
          cases h
          simp at hj
          obtain ⟨rfl, _⟩ := hj
          rw [toV_int hk, toV_int hx]
          have := hab
          simp at this
          simp [Instr.sameBits, this, hkk]
        · exact ih h (hr h hj)
      · cases h
    · split at h
      · rename_i hab
        cases h
        simp at hj
        obtain ⟨rfl, _⟩ := hj
        rw [toV_str hk, toV_str hx]
        rw [eqB_eq] at hab
        have := hab
        simp at this
        subst this
        have : ∀ s : ByteArray, (s == s) = true := fun s => by rw [beq_toListBytes]; simp
        simp [Instr.sameBits, this]
      · exact ih h (hr h hj)
    · cases h

theorem wMap_ok (r : Rep env ρ t.get w) {mt : TypeId} {x ix y : Operand} {v : AV} (h : wMap P ev t n mt x ix y = some (v, t', n')) (hx : ∀ v, ev x = some v → v.toV env ρ = some (f x))
    (hix : ∀ v, ev ix = some v → v.toV env ρ = some (f ix)) (hy : ∀ v, ev y = some v → v.toV env ρ = some (f y)) (ho : o.op = .mapUpdate mt x ix y) : Turns P env ρ f o t.get n v t'.get n' w := by
  unfold wMap at h
  split at h
  · rename_i kt et id k u hu hm hk hyu
    split at h
    · rename_i l clock hg hkeyed
      split at h
      · rename_i ob hob
        split at h
        · rename_i t₁ hput
          cases h
          obtain ⟨d, hd, hkd⟩ := keyed_ok hkeyed
          have hK := hix _ hk
          have hU := hy _ hyu
          obtain ⟨p, hp, hX⟩ := toV_map (hx _ hm)
          obtain ⟨es, hes, hlen, hpt⟩ := r.map hg hp
          have hck := run_checkKey (P := P) hd hK hkd false w
          unfold mapPut at hob
          split at hob
          · rename_i i v' hfind
            split at hob
            · rename_i k' v'' b hli
              cases hob
              obtain ⟨V, hV, hfn⟩ : Finds env ρ d (f ix) es.toList 0 (some (i, v')) := findA_ok hK hkd hlen hpt hfind
              have hfk : (Instr.findKey kt (f ix) es.toList).run P w = .ok (some (i, V)) w := by
                simp [Instr.findKey, run_underlying hd, hfn]
              obtain ⟨X', V'', he, hx', hv''⟩ := hpt i k' v'' b hli
              have he' : es[i]? = some ⟨X', V'', b⟩ := by simpa using he
              have hsb := sameBits_key hK hx' hfind (by simpa using hli)
              have hstay : (Instr.keyThatStays (((es[i]?).map (·.key)).getD (f ix)) (f ix)).run P w = .ok (f ix) w := by
                simp [Instr.keyThatStays, he', hsb]
              have hrun : (Instr.mapUpdate mt (f x) (f ix) (f y)).run P w = .ok () { w with heap := w.heap.setIfInBounds p.block (.map (es.modify i fun e => { e with key := f ix, val := f y }) clock) } := by
                simp only [Instr.mapUpdate, Sem.run_bind, run_underlying hu, Result.andThen_ok, hX, run_getObj hes, hck, hfk, hstay, run_setObj hes]
              have hpt2 : ∀ (j : Nat) (a c : AV) (b' : Nat), (l.set i (k', u, b))[j]? = some (a, c, b') → ∃ X V, (es.modify i fun e => { e with key := f ix, val := f y })[j]? = some (⟨X, V, b'⟩ : MapEntry) ∧ a.toV env ρ = some X ∧ c.toV env ρ = some V := by
                intro j a c b' hj
                rw [List.getElem?_set] at hj
                rw [Array.getElem?_modify]
                by_cases e : i = j
                · subst e
                  have hlt : i < l.length := by
                    rcases Nat.lt_or_ge i l.length with h | h
                    · exact h
                    · rw [List.getElem?_eq_none h] at hli; cases hli
                  simp [hlt] at hj
                  obtain ⟨rfl, rfl, rfl⟩ := hj
                  refine ⟨f ix, f y, by simp [he'], ?_, hU⟩
                  -- the key that stays is the one that was there
                  have : X' = f ix := by
                    rcases hkd with ⟨q, m, rfl, _, _⟩ | ⟨s, rfl, _⟩
                    · rw [toV_int hK] at hsb ⊢
                      cases X' <;> simp [Instr.sameBits] at hsb
                      obtain ⟨rfl, rfl⟩ := hsb
                      rfl
                    · rw [toV_str hK] at hsb ⊢
                      cases X' <;> simp [Instr.sameBits] at hsb
                      rename_i bs
                      have := hsb
                      rw [beq_toListBytes] at this
                      simp at this
                      have e2 := ByteArray.toList_eq bs
                      rw [this] at e2
                      congr 1
                      obtain ⟨⟨bl⟩⟩ := bs
                      simp at e2
                      rw [e2]
                  rw [← this]; exact hx'
                · simp only [e, if_false] at hj ⊢
                  simpa using hpt j a c b' hj
              obtain ⟨h1, h2⟩ := rep_map r hg hp hes (l' := l.set i (k', u, b)) (es' := es.modify i fun e => { e with key := f ix, val := f y }) (by simpa using hlen.symm) hpt2 n hput
              exact ⟨undef, ρ, _, .inr ⟨by simp [execOp, ho, hrun], rfl⟩, by simp [AV.toV, toVs, undef], h1, h2⟩
            · cases hob
          · rename_i hfind
            cases hob
            have hfn : Instr.findNow d (f ix) es.toList 0 = some none := findA_ok (r := none) hK hkd hlen hpt hfind
            have hfk : (Instr.findKey kt (f ix) es.toList).run P w = .ok none w := by
              simp [Instr.findKey, run_underlying hd, hfn]
            have hrun : (Instr.mapUpdate mt (f x) (f ix) (f y)).run P w = .ok () { w with heap := w.heap.setIfInBounds p.block (.map (es.push { key := f ix, val := f y, born := clock }) (clock + 1)) } := by
              simp only [Instr.mapUpdate, Sem.run_bind, run_underlying hu, Result.andThen_ok, hX, run_getObj hes, hck, hfk, run_setObj hes]
            have hpt2 : ∀ (j : Nat) (a c : AV) (b' : Nat), (l ++ [(k, u, clock)])[j]? = some (a, c, b') → ∃ X V, (es.push { key := f ix, val := f y, born := clock })[j]? = some (⟨X, V, b'⟩ : MapEntry) ∧ a.toV env ρ = some X ∧ c.toV env ρ = some V := by
              intro j a c b' hj
              have hls : l.length = es.size := by simpa using hlen
              rw [List.getElem?_append] at hj
              rw [Array.getElem?_push]
              split at hj
              · rename_i hlt
                rw [if_neg (by omega)]
                simpa using hpt j a c b' hj
              · rename_i hge
                by_cases e : j = l.length
                · subst e
                  simp at hj
                  obtain ⟨rfl, rfl, rfl⟩ := hj
                  exact ⟨f ix, f y, by rw [if_pos hls], hK, hU⟩
                · rw [List.getElem?_eq_none (by simp; omega)] at hj
                  cases hj
            obtain ⟨h1, h2⟩ := rep_map r hg hp hes (l' := l ++ [(k, u, clock)]) (es' := es.push { key := f ix, val := f y, born := clock }) (by simpa using hlen.symm) hpt2 n hput
            exact ⟨undef, ρ, _, .inr ⟨by simp [execOp, ho, hrun], rfl⟩, by simp [AV.toV, toVs, undef], h1, h2⟩
          · cases hob
        · cases h
      · cases h
    · cases h
  · cases h

theorem wNext_ok (r : Rep env ρ t.get w) {x : Operand} {isStr : Bool} {v : AV} (h : wNext ev t n x isStr = some (v, t', n')) (hx : ∀ v, ev x = some v → v.toV env ρ = some (f x)) (ho : o.op = .next x isStr) : Turns P env ρ f o t.get n v t'.get n' w := by
  unfold wNext at h
  split at h
  · rename_i id he
    split at h
    · rename_i s pos hg
      obtain ⟨p, hp, hX⟩ := toV_ptr (hx _ he)
      obtain ⟨q, y, hq, hy, hyo⟩ := r.obj _ _ hg
      simp only at hp
      rw [hp] at hq; cases hq
      obtain ⟨h0, hyo⟩ : p.off = 0 ∧ y = .stringIter ⟨s.toArray⟩ pos := hyo
      subst hyo
      have hX' : f x = .pointer (some ⟨p.block, 0, none⟩) := by rw [hX]; simp [h0]
      have hget : (getObj p.block).run P w = .ok (.stringIter ⟨s.toArray⟩ pos) w := by simp [getObj, Sem.run, hy]
      have hsz : (ByteArray.mk s.toArray).size = s.length := by simp [ByteArray.size]
      split at h
      · rename_i hlt
        have hlt : pos < s.length := by simpa [Nat.blt_eq] using hlt
        split at h
        · rename_i t₁ hput
          cases h
          obtain ⟨h1, h2, h3⟩ := set_heap hy (.stringIter ⟨s.toArray⟩ (pos + (Utf8.decode ⟨s.toArray⟩ pos).2))
          have hset : (setObj p.block (.stringIter ⟨s.toArray⟩ (pos + (Utf8.decode ⟨s.toArray⟩ pos).2))).run P w = .ok () { w with heap := w.heap.setIfInBounds p.block (.stringIter ⟨s.toArray⟩ (pos + (Utf8.decode ⟨s.toArray⟩ pos).2)) } := by
            simp [setObj, Sem.run, hy]
          have hrs := rep_set (n := n) r hg hp (o' := .siter s (pos + (Utf8.decode ⟨s.toArray⟩ pos).2)) h1 ⟨h0, rfl⟩ h2 h3 rfl rfl rfl
          rw [← HF.get_put hput] at hrs
          refine ⟨.tuple #[.bool true, goInt pos, .int .i32 (Utf8.decode ⟨s.toArray⟩ pos).1], ρ, _, .inl ?_, by simp [AV.toV, toVs, goInt], hrs.1, hrs.2⟩
          simp only [execOp, ho, hX', Instr.next, Sem.run_bind, hget, Result.andThen_ok, hsz, hlt, if_true, hset, Sem.run_pure]
        · cases h
      · rename_i hge
        have hge : ¬ pos < s.length := by intro e; rw [← Nat.blt_eq] at e; rw [e] at hge; cases hge
        cases h
        refine ⟨.tuple #[.bool false], ρ, w, .inl ?_, by simp [AV.toV, toVs], r, .refl _ _ _ _⟩
        simp only [execOp, ho, hX', Instr.next, Sem.run_bind, hget, Result.andThen_ok, hsz, hge, if_false, Sem.run_pure]
    · cases h
  · cases h

/- A slice of bytes, handed on as it is: its row is marked behind its end. -/
theorem freeze_heap {b : Nat} {c : Array Value} {e : TypeId} {lo hi : Nat} (h : w.heap[b]? = some (.cells c e (lo, hi))) (k : Nat) :
    ((w.freeze ⟨b, k, none⟩ 1).heap[b]? = some (.cells c e (if lo == hi then (k, k + 1) else (min lo k, max hi (k + 1))))) ∧ (∀ j, j ≠ b → (w.freeze ⟨b, k, none⟩ 1).heap[j]? = w.heap[j]?) ∧ (w.freeze ⟨b, k, none⟩ 1).heap.size = w.heap.size := by
  simp only [World.freeze, Nat.succ_ne_zero, if_false]
  refine ⟨?_, fun j hj => ?_, by simp⟩
  · simp [Array.getElem?_modify, h]
  · rw [Array.getElem?_modify, if_neg (fun e => hj e.symm)]

theorem HF.up_same {h : HF} {i : Nat} {o : AObj} (hi : h i = some o) : h.up i (some o) = h := by
  funext j; unfold HF.up; split
  · rename_i e; subst e; exact hi.symm
  · rfl

theorem wSame_ok (r : Rep env ρ t.get w) {src dst : TypeId} {x : Operand} {v : AV} (h : wSame P ev t n src dst x = some (v, t', n')) (hx : ∀ v, ev x = some v → v.toV env ρ = some (f x)) (ho : o.op = .convert src dst x) : Turns P env ρ f o t.get n v t'.get n' w := by
  unfold wSame at h
  split at h
  · rename_i e1 e id off l c op hs hd he
    split at h
    · rename_i cs e2 fz hsd hu hg
      cases h
      have hsd := Nat.eq_of_beq_eq_true hsd
      obtain ⟨p, hp, hX⟩ := toV_slice (hx _ he)
      obtain ⟨q, y, hq, hy, cc, lo, hi, rfl, hsz, hc, hf⟩ := r.obj _ _ hg
      simp only at hp
      rw [hp] at hq; cases hq
      obtain ⟨h1, h2, h3⟩ := freeze_heap hy cc.size
      have hshape : w.shape? p.block = some (e2, cc.size) := by simp [World.shape?, hy]
      have hmark : (markStringish ⟨p.block, p.off + off, none⟩).run P w = .ok () (w.freeze ⟨p.block, cc.size, none⟩ 1) := by
        simp [markStringish, hshape]
      have hfz : ORel env ρ p (.cells cs e2 fz) (.cells cc e2 (if lo == hi then (cc.size, cc.size + 1) else (min lo cc.size, max hi (cc.size + 1)))) := by
        by_cases e : lo = hi
        · simp only [e, beq_self_eq_true, if_true]
          exact ⟨cc, _, _, rfl, hsz, hc, fun _ => .inr (Nat.le_refl _)⟩
        · have e' : (lo == hi) = false := by simpa using e
          simp only [e', Bool.false_eq_true, if_false]
          refine ⟨cc, _, _, rfl, hsz, hc, fun hz => .inr ?_⟩
          rcases hf hz with h | h
          · exact absurd h e
          · omega
      have hrs := rep_set (n := n) r hg hp h1 hfz h2 h3 rfl rfl rfl
      rw [HF.up_same hg] at hrs
      refine ⟨f x, ρ, _, .inl ?_, hx _ he, hrs.1, hrs.2⟩
      have hconv : (convert src dst (f x)).run P w = .ok (f x) (w.freeze ⟨p.block, cc.size, none⟩ 1) := by
        subst hsd
        rw [hX]
        unfold convert
        simp only [Sem.run_bind, run_underlying hd, run_underlying hu, Result.andThen_ok, beq_self_eq_true, hmark, Sem.run_pure]
      simp [execOp, ho, hconv]
    · cases h
  · cases h

theorem wDelete_ok (r : Rep env ρ t.get w) {c : Call} {v : AV} (hc : c.callee = .builtin .delete) (h : wDelete P ev t n c.argTypes c.args = some (v, t', n')) (hx : ∀ x ∈ c.args.toList, ∀ v, ev x = some v → v.toV env ρ = some (f x)) (ho : o.op = .call c) :
    Turns P env ρ f o t.get n v t'.get n' w := by
  unfold wDelete at h
  split at h
  · rename_i mt x y ht ha
    have hargs : c.args.map f = #[f x, f y] := by apply Array.ext'; simp [ha]
    split at h
    · rename_i kt et id k hu hm hk
      split at h
      · rename_i l clock hg hkeyed
        obtain ⟨d, hd, hkd⟩ := keyed_ok hkeyed
        have hK := hx y (by simp [ha]) _ hk
        obtain ⟨p, hp, hX⟩ := toV_map (hx x (by simp [ha]) _ hm)
        obtain ⟨es, hes, hlen, hpt⟩ := r.map hg hp
        have hls : l.length = es.size := by simpa using hlen
        have hck := run_checkKey (P := P) hd hK hkd es.isEmpty w
        have fin : ∀ {w'}, (∀ ty, (Builtin.delete_ c.argTypes ty #[f x, f y]).run P w = .ok (.tuple #[]) w') → (execOp f o).run P w = .ok (.value undef) w' := by
          intro w' key
          simp [execOp, ho, resolve, hc, invoke, builtin, hargs, key, undef]
        split at h
        · rename_i i v' hfind
          split at h
          · rename_i t₁ hput
            cases h
            obtain ⟨V, hV, hfn⟩ : Finds env ρ d (f y) es.toList 0 (some (i, v')) := findA_ok hK hkd hlen hpt hfind
            have hfk : (Instr.findKey kt (f y) es.toList).run P w = .ok (some (i, V)) w := by
              simp [Instr.findKey, run_underlying hd, hfn]
            have hrg := findA_range hfind
            have hil : i < es.size := by omega
            have hpt2 : ∀ (j : Nat) (a b : AV) (b' : Nat), (l.eraseIdx i)[j]? = some (a, b, b') → ∃ X V, (es.eraseIdxIfInBounds i)[j]? = some (⟨X, V, b'⟩ : MapEntry) ∧ a.toV env ρ = some X ∧ b.toV env ρ = some V := by
              intro j a b b' hj
              rw [List.getElem?_eraseIdx] at hj
              simp only [Array.eraseIdxIfInBounds, hil, dif_pos]
              rw [Array.getElem?_eraseIdx]
              split at hj
              · rename_i hlt; rw [if_pos hlt]; simpa using hpt j a b b' hj
              · rename_i hge; rw [if_neg hge]; simpa using hpt (j + 1) a b b' hj
            obtain ⟨h1, h2⟩ := rep_map r hg hp hes (l' := l.eraseIdx i) (es' := es.eraseIdxIfInBounds i) (by simp [Array.eraseIdxIfInBounds, hil, List.length_eraseIdx, hls]) hpt2 n hput
            refine ⟨undef, ρ, _, .inl (fin fun ty => ?_), by simp [AV.toV, toVs, undef], h1, h2⟩
            simp [Builtin.delete_, ht, run_underlying hu, hX, run_getObj hes, hck, hfk, run_setObj hes]
          · cases h
        · rename_i hfind
          cases h
          have hfn : Instr.findNow d (f y) es.toList 0 = some none := findA_ok (r := none) hK hkd hlen hpt hfind
          have hfk : (Instr.findKey kt (f y) es.toList).run P w = .ok none w := by
            simp [Instr.findKey, run_underlying hd, hfn]
          obtain ⟨h1, h2, h3⟩ := set_heap hes (.map es clock)
          have hrs := rep_set (n := n) (o' := .map l clock) r hg hp h1 ⟨es, rfl, hls.symm, fun i x v b hi => by simpa using hpt i x v b hi⟩ h2 h3 rfl rfl rfl
          rw [HF.up_same hg] at hrs
          refine ⟨undef, ρ, _, .inl (fin fun ty => ?_), by simp [AV.toV, toVs, undef], hrs.1, hrs.2⟩
          simp [Builtin.delete_, ht, run_underlying hu, hX, run_getObj hes, hck, hfk, run_setObj hes]
        · cases h
      · cases h
    · cases h
  · cases h

end
end Go.Rx
