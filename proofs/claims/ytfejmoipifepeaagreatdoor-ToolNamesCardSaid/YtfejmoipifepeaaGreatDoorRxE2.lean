/- The executor is right: operations that look at memory. -/
import Derived.Test.YtfejmoipifepeaaGreatDoorRxE1
import Derived.Laws.BytesArg
set_option linter.unusedSimpArgs false
set_option linter.unusedVariables false
set_option linter.unusedSectionVars false
namespace Go.Rx
section
variable {P : Program} {env : Env} {ρ : Ren} {ev : Ev} {f : Operand → Value} {o : Oper} {t : T AObj} {w : World}

theorem push_all (bs : List UInt8) (acc : ByteArray) : bs.foldl (fun r b => r.push b) acc = ⟨(acc.data.toList ++ bs).toArray⟩ := by
  induction bs generalizing acc with
  | nil => cases acc; simp
  | cons b bs ih =>
    simp only [List.foldl_cons]
    rw [ih]
    congr 1
    simp [ByteArray.push]

/- A slice's bytes, as one text. -/
theorem bytesIn_ok (r : Rep env ρ t.get w) {a : Option (Nat × Nat)} {len cap : Nat} {op : Bool} {bs : List UInt8} (h : bytesIn t a len = some bs) {V : Value} (hV : (AV.slice a len cap op).toV env ρ = some V) :
    (Conv.bytesToString V).run P w = .ok (.string ⟨bs.toArray⟩) w := by
  unfold bytesIn at h
  split at h
  · cases h
    obtain ⟨_, rfl⟩ := toV_slice_none hV
    rfl
  · rename_i id off
    obtain ⟨p, hp, rfl⟩ := toV_slice hV
    split at h
    · rename_i l hl
      obtain ⟨yo, hg, hyo⟩ := rowOf_ok hl
      split at h
      · rename_i vs hk
        split at h
        · rename_i bs' hb
          split at h
          · rename_i hlen
            cases h
            have hlen := Nat.eq_of_beq_eq_true hlen
            obtain ⟨xs, hxs, hc⟩ := row_cells r hg hyo hp hk
            obtain ⟨ns, rfl, rfl⟩ := bytesOf_ok hb hxs
            have hl' : ns.length = len := by simpa using hlen
            have hload := run_loadCells_list (P := P) w ⟨p.block, p.off + off, none⟩ _ hc
            rw [List.length_map, hl'] at hload
            rw [run_bytesToString w _ len _ ns hload]
            have : ns.foldl (fun (r : ByteArray) n => r.push (UInt8.ofNat n.toNat)) ByteArray.empty = (ns.map fun n => UInt8.ofNat n.toNat).foldl (fun r b => r.push b) ByteArray.empty := by
              rw [List.foldl_map]
            rw [this, push_all]
            rfl
          · cases h
        · cases h
      · cases h
    · cases h

theorem rConv_ok (r : Rep env ρ t.get w) {src dst : TypeId} {x : Operand} {v : AV} (h : rConv P ev t src dst x = some v) (hx : ∀ v, ev x = some v → v.toV env ρ = some (f x)) (ho : o.op = .convert src dst x) : Reads P env ρ f o v w := by
  unfold rConv at h
  split at h
  · rename_i e a len cap op hs hd he
    split at h
    · rename_i hu
      split at h
      · rename_i bs hb
        cases h
        refine ⟨_, rfl, ?_⟩
        have key := bytesIn_ok (P := P) r hb (hx _ he)
        have hc : (convert src dst (f x)).run P w = .ok (.string ⟨bs.toArray⟩) w := by
          have hX := hx _ he
          obtain ⟨a', l', c', hX'⟩ : ∃ a' l' c', f x = .slice a' l' c' := by
            cases a with
            | none => obtain ⟨_, e⟩ := toV_slice_none hX; exact ⟨_, _, _, e⟩
            | some a => obtain ⟨p, hp, e⟩ := toV_slice hX; exact ⟨_, _, _, e⟩
          rw [hX'] at key ⊢
          rw [run_convert_bytes_string w src dst e _ _ _ hs hu hd]
          exact key
        simp [execOp, ho, hc]
      · cases h
    · cases h
  · cases h

/- What a search among entries has come to. -/
def Finds (env : Env) (ρ : Ren) (d : TypeDesc) (K : Value) (es : List MapEntry) (i : Nat) : Option (Nat × AV) → Prop
  | none => Instr.findNow d K es i = some none
  | some (j, v) => ∃ V, v.toV env ρ = some V ∧ Instr.findNow d K es i = some (some (j, V))

/- Keys. -/
theorem findA_ok {k : AV} {K : Value} (hk : k.toV env ρ = some K) {d : TypeDesc} (hd : (∃ j n, k = .int j n ∧ ∃ j', d = .int j') ∨ (∃ s, k = .str s ∧ d = .string)) :
    ∀ {l : List (AV × AV × Nat)} {es : List MapEntry} {i : Nat} {r : Option (Nat × AV)}, l.length = es.length →
      (∀ (i : Nat) (x v : AV) (b : Nat), l[i]? = some (x, v, b) → ∃ X V, es[i]? = some (⟨X, V, b⟩ : MapEntry) ∧ x.toV env ρ = some X ∧ v.toV env ρ = some V) →
      findA k l i = some r → Finds env ρ d K es i r
  | [], [], i, r, _, _, h => by simp [findA] at h; subst h; simp [Finds, Instr.findNow]
  | [], _ :: _, _, _, h, _, _ => by simp at h
  | _ :: _, [], _, _, h, _, _ => by simp at h
  | (x, v, b) :: l, e :: es, i, r, hlen, hp, h => by
    obtain ⟨X, V, he, hx, hv⟩ := hp 0 x v b (by simp)
    simp at he; subst he
    have rest := findA_ok hk hd (l := l) (es := es) (i := i + 1) (r := r) (by simpa using hlen) (fun j y u c hj => by simpa using hp (j + 1) y u c (by simpa using hj))
    simp only [findA] at h
    split at h
    · rename_i j a j' a'
      rcases hd with ⟨j2, n2, e2, j3, rfl⟩ | ⟨s, e2, _⟩
      · split at h
        · rename_i hj
          subst hj
          rw [toV_int hk, toV_int hx] at *
          split at h
          · rename_i hab
            cases h
            exact ⟨V, hv, by simp [Instr.findNow, Instr.sameNow, hab]⟩
          · rename_i hab
            have := rest h
            have hab : (a == a') = false := by simpa using hab
            cases r with
            | none => simpa only [Finds, Instr.findNow, Instr.sameNow, hab, if_true] using this
            | some jv => simpa only [Finds, Instr.findNow, Instr.sameNow, hab, if_true] using this
        · cases h
      · cases e2
    · rename_i a a'
      rcases hd with ⟨j2, n2, e2, _⟩ | ⟨s, e2, rfl⟩
      · cases e2
      · rw [toV_str hk, toV_str hx] at *
        have hb : ((⟨a.toArray⟩ : ByteArray) == ⟨a'.toArray⟩) = eqB a a' := by rw [beq_toListBytes, eqB_eq]; simp
        split at h
        · rename_i hab
          cases h
          exact ⟨V, hv, by simp [Instr.findNow, Instr.sameNow, hb, hab]⟩
        · rename_i hab
          have := rest h
          have hab : eqB a a' = false := by simpa using hab
          cases r with
          | none => simpa only [Finds, Instr.findNow, Instr.sameNow, hb, hab] using this
          | some jv => simpa only [Finds, Instr.findNow, Instr.sameNow, hb, hab] using this
    · cases h

theorem keyed_ok {kt : TypeId} {k : AV} (h : keyed P kt k = true) : ∃ d, P.underlying kt = some d ∧ ((∃ j n, k = .int j n ∧ ∃ j', d = .int j') ∨ (∃ s, k = .str s ∧ d = .string)) := by
  unfold keyed at h
  split at h
  · rename_i j j' n hu; exact ⟨_, hu, .inl ⟨_, _, rfl, _, rfl⟩⟩
  · rename_i s hu; exact ⟨_, hu, .inr ⟨_, rfl, rfl⟩⟩
  · cases h

theorem run_checkKey {kt : TypeId} {d : TypeDesc} (hu : P.underlying kt = some d) {k : AV} {K : Value} (hk : k.toV env ρ = some K)
    (hd : (∃ j n, k = .int j n ∧ ∃ j', d = .int j') ∨ (∃ s, k = .str s ∧ d = .string)) (b : Bool) (w : World) : (Instr.checkKey b 10000 kt K).run P w = .ok () w := by
  rcases hd with ⟨j, n, rfl, j', rfl⟩ | ⟨s, rfl, rfl⟩
  · rw [toV_int hk]; unfold Instr.checkKey; simp only [Sem.run_bind, run_underlying hu, Result.andThen_ok, Sem.run_pure]
  · rw [toV_str hk]; unfold Instr.checkKey; simp only [Sem.run_bind, run_underlying hu, Result.andThen_ok, Sem.run_pure]

/- A map's entries in the world. -/
theorem Rep.map (r : Rep env ρ t.get w) {id : Nat} {l : List (AV × AV × Nat)} {c : Nat} (hg : t.get id = some (.map l c)) {p : Place} (hp : ρ id = some p) :
    ∃ es : Array MapEntry, w.heap[p.block]? = some (.map es c) ∧ l.length = es.toList.length ∧
      ∀ (i : Nat) (x v : AV) (b : Nat), l[i]? = some (x, v, b) → ∃ X V, es.toList[i]? = some (⟨X, V, b⟩ : MapEntry) ∧ x.toV env ρ = some X ∧ v.toV env ρ = some V := by
  obtain ⟨q, x, hq, hx, es, rfl, hs, hc⟩ := r.obj _ _ hg
  rw [hp] at hq; cases hq
  exact ⟨es, hx, by simp [hs], fun i x v b hi => by simpa using hc i x v b hi⟩

theorem run_getObj {r : Nat} {es : Array MapEntry} {c : Nat} (h : w.heap[r]? = some (.map es c)) : (getObj r).run P w = .ok (.map es c) w := by
  simp [getObj, Sem.run, h]

/- What a map value holds in a world. -/
def HoldsMap (w : World) (X : Value) (es : Array MapEntry) : Prop := (X = .map none ∧ es = #[]) ∨ ∃ b c, X = .map (some b) ∧ w.heap[b]? = some (.map es c)

theorem run_lookup_found {mt kt et : TypeId} {X K V : Value} {es : Array MapEntry} {j : Nat} {ok : Bool} (hX : HoldsMap w X es) (hu : P.underlying mt = some (.map kt et))
    (hck : (Instr.checkKey es.isEmpty 10000 kt K).run P w = .ok () w) (hfk : (Instr.findKey kt K es.toList).run P w = .ok (some (j, V)) w) :
    (Instr.lookup mt X K ok).run P w = .ok (if ok then .tuple #[V, .bool true] else V) w := by
  rcases hX with ⟨rfl, rfl⟩ | ⟨b, c, rfl, hb⟩
  · simp only [Instr.lookup, Sem.run_bind, run_underlying hu, Result.andThen_ok, Sem.run_pure]
    simp only [hck, Result.andThen_ok, hfk, Sem.run_pure]
    rfl
  · simp only [Instr.lookup, Sem.run_bind, run_underlying hu, Result.andThen_ok, run_getObj hb, Sem.run_pure]
    simp only [hck, Result.andThen_ok, hfk, Sem.run_pure]
    rfl

theorem run_lookup_missing {mt kt et : TypeId} {X K Z : Value} {es : Array MapEntry} {ok : Bool} {i : TypeInfo} (hX : HoldsMap w X es) (hu : P.underlying mt = some (.map kt et))
    (hck : (Instr.checkKey es.isEmpty 10000 kt K).run P w = .ok () w) (hfk : (Instr.findKey kt K es.toList).run P w = .ok none w) (hi : P.info? et = some i) (hz : i.zero = some Z) :
    (Instr.lookup mt X K ok).run P w = .ok (if ok then .tuple #[Z, .bool false] else Z) w := by
  rcases hX with ⟨rfl, rfl⟩ | ⟨b, c, rfl, hb⟩
  · simp only [Instr.lookup, Sem.run_bind, run_underlying hu, Result.andThen_ok, Sem.run_pure]
    simp only [hck, Result.andThen_ok, hfk, Sem.run_pure, Sem.run_bind, run_zeroValue hi hz]
  · simp only [Instr.lookup, Sem.run_bind, run_underlying hu, Result.andThen_ok, run_getObj hb, Sem.run_pure]
    simp only [hck, Result.andThen_ok, hfk, Sem.run_pure, Sem.run_bind, run_zeroValue hi hz]

theorem foundA_ok (r : Rep env ρ t.get w) {k : AV} {K : Value} (hk : k.toV env ρ = some K) {d : TypeDesc} (hd : (∃ j n, k = .int j n ∧ ∃ j', d = .int j') ∨ (∃ s, k = .str s ∧ d = .string))
    {m : Option Nat} {res : Option (Nat × AV)} (h : foundA k t m = some res) {X : Value} (hX : (AV.map m).toV env ρ = some X) :
    ∃ es : Array MapEntry, HoldsMap w X es ∧ Finds env ρ d K es.toList 0 res := by
  cases m with
  | none =>
    simp only [foundA] at h
    cases h
    exact ⟨#[], .inl ⟨toV_map_none hX, rfl⟩, by simp [Finds, Instr.findNow]⟩
  | some id =>
    simp only [foundA] at h
    split at h
    · rename_i l c hg
      obtain ⟨p, hp, rfl⟩ := toV_map hX
      obtain ⟨es, hes, hlen, hpt⟩ := r.map hg hp
      exact ⟨es, .inr ⟨_, _, rfl, hes⟩, findA_ok hk hd hlen hpt h⟩
    · cases h

theorem rLookup_ok (r : Rep env ρ t.get w) {mt : TypeId} {x ix : Operand} {ok : Bool} {v : AV} (h : rLookup P ev t mt x ix ok = some v) (hx : ∀ v, ev x = some v → v.toV env ρ = some (f x))
    (hix : ∀ v, ev ix = some v → v.toV env ρ = some (f ix)) (ho : o.op = .lookup mt x ix ok) : Reads P env ρ f o v w := by
  unfold rLookup at h
  split at h
  · rename_i kt et m k hu hm hk
    split at h
    · cases h
    · rename_i hkeyed
      obtain ⟨d, hd, hkd⟩ := keyed_ok hkeyed
      have hK := hix _ hk
      split at h
      · cases h
      · rename_i res hres
        obtain ⟨es, hes, hfind⟩ := foundA_ok r hK hkd hres (hx _ hm)
        have hck := run_checkKey (P := P) hd hK hkd es.isEmpty w
        cases res with
        | some jv =>
          obtain ⟨j, u⟩ := jv
          simp only [orZero] at h
          cases h
          obtain ⟨V, hV, hfn⟩ := hfind
          have hfk : (Instr.findKey kt (f ix) es.toList).run P w = .ok (some (j, V)) w := by
            simp [Instr.findKey, run_underlying hd, hfn]
          refine ⟨if ok then .tuple #[V, .bool true] else V, ?_, ?_⟩
          · cases ok
            · simpa using hV
            · simp [AV.toV, toVs, hV]
          · simp [execOp, ho, run_lookup_found hes hu hck hfk]
        | none =>
          simp only [orZero] at h
          cases hzz : zeroA P et with
          | none => simp [hzz] at h
          | some z =>
            simp only [hzz] at h
            cases h
            obtain ⟨i, Z, hi, hiz, hZ⟩ := zeroA_ok (env := env) (ρ := ρ) hzz
            have hfk : (Instr.findKey kt (f ix) es.toList).run P w = .ok none w := by
              simp [Instr.findKey, run_underlying hd, show Instr.findNow d (f ix) es.toList 0 = some none from hfind]
            refine ⟨if ok then .tuple #[Z, .bool false] else Z, ?_, ?_⟩
            · cases ok
              · simpa using hZ
              · simp [AV.toV, toVs, hZ]
            · simp [execOp, ho, run_lookup_missing hes hu hck hfk hi hiz]
  · cases h

theorem rLen_ok (r : Rep env ρ t.get w) {c : Call} {v : AV} (hc : c.callee = .builtin .len) (h : rLen P ev t c.argTypes c.args = some v) (hx : ∀ x ∈ c.args.toList, ∀ v, ev x = some v → v.toV env ρ = some (f x)) (ho : o.op = .call c) : Reads P env ρ f o v w := by
  unfold rLen at h
  split at h
  · rename_i ty x ht ha
    have hargs : c.args.map f = #[f x] := by apply Array.ext'; simp [ha]
    have fin : ∀ {n : Nat}, (∀ y, (Builtin.len_ c.argTypes y #[f x]).run P w = .ok (goInt n) w) → Reads P env ρ f o (.int .i64 n) w := by
      intro n key
      refine ⟨.int .i64 n, rfl, ?_⟩
      simp [execOp, ho, resolve, hc, invoke, builtin, hargs, key, goInt]
    split at h
    · rename_i k e id hu he
      split at h
      · rename_i l clk hg
        cases h
        obtain ⟨p, hp, hX⟩ := toV_map (hx x (by simp [ha]) _ he)
        obtain ⟨es, hes, hlen, _⟩ := r.map hg hp
        refine fin fun y => ?_
        have hl : l.length = es.size := by simpa using hlen
        simp [Builtin.len_, ht, hX, run_underlying hu, run_getObj hes, hl]
      · cases h
    · rename_i k e hu he
      cases h
      refine fin (n := 0) fun y => ?_
      simp [Builtin.len_, ht, toV_map_none (hx x (by simp [ha]) _ he), run_underlying hu]
    · cases h
  · cases h

theorem evalR_ok (r : Rep env ρ t.get w) {v : AV} (h : evalR P ev t o.op = some v) (hev : EvOk env ρ ev f o.op.operands) : Reads P env ρ f o v w := by
  generalize ho : o.op = op at *
  cases op <;> simp only [evalR] at h <;> first
    | (cases h; done)
    | skip
  case load ty x => exact rLoad_ok r h (hev x (by simp [Op.operands])) ho
  case convert src dst x => exact rConv_ok r h (hev x (by simp [Op.operands])) ho
  case lookup mt x ix ok => exact rLookup_ok r h (hev x (by simp [Op.operands])) (hev ix (by simp [Op.operands])) ho
  case call c =>
    have hargs : ∀ x ∈ c.args.toList, ∀ v, ev x = some v → v.toV env ρ = some (f x) := fun x hx => hev x (by simp only [Op.operands, Call.operands, Array.mem_append]; exact .inr (by simpa using hx))
    split at h
    · rename_i hc; exact rLen_ok r hc h hargs ho
    · cases h
end
end Go.Rx
