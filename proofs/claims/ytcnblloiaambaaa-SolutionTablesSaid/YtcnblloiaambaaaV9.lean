/- The logic V, part 9: vop is sound: reading snapshots, addresses, aggregates. -/
import Derived.Test.YtcnblloiaambaaaV8
namespace Go.V
section
variable {P : Program} {w w' : World} {g g' : Gh} {H : Hp} {F : Fr} {tm : Array Value} {o : Oper} {pre : Prop} {d : D}

theorem rep_sptr {cs : List D} {off : Nat} {v : Value} (h : Rep w g (.sptr cs off) v) : ∃ (k base : Nat) (f : Nat → Value), v = .pointer (some ⟨k, base + off, none⟩) ∧ (cs ≠ [] → g.S k) ∧ (∀ d ∈ cs, d.one = true) ∧
    (∀ i : Nat, i < cs.length → w.cell? ⟨k, base + i, none⟩ = some (f i)) ∧ ∀ (i : Nat) (d : D), cs[i]? = some d → Rep w g d (f i) := by
  cases h with
  | sptr f hS h1 hc hr => exact ⟨_, _, f, rfl, hS, h1, hc, hr⟩

theorem rep_ptr {b off : Nat} {v : Value} (h : Rep w g (.ptr b off) v) : ∃ (k base : Nat), v = .pointer (some ⟨k, base + off, none⟩) ∧ g.ρ b = some (k, base) := by
  cases h with
  | ptr h => exact ⟨_, _, rfl, h⟩

theorem rep_agg {cs : List D} {v : Value} (h : Rep w g (.agg cs) v) : ∃ vs, v = .agg vs ∧ vs.size = cs.length ∧ (∀ d ∈ cs, d.one = true) ∧ ∀ (i : Nat) (d : D) (v : Value), cs[i]? = some d → vs[i]? = some v → Rep w g d v := by
  cases h with
  | agg hn h1 h => exact ⟨_, rfl, hn, h1, h⟩

theorem rep_tup {cs : List D} {v : Value} (h : Rep w g (.tup cs) v) : ∃ vs, v = .tuple vs ∧ vs.size = cs.length ∧ ∀ (i : Nat) (d : D) (v : Value), cs[i]? = some d → vs[i]? = some v → Rep w g d v := by
  cases h with
  | tup hn h => exact ⟨_, rfl, hn, h⟩

theorem lt_of_getElem? {α : Type} {l : List α} {i : Nat} {x : α} (h : l[i]? = some x) : i < l.length := (List.getElem?_eq_some_iff.1 h).1

theorem gives_load {t : TypeId} {x : Operand} (ho : o.op = .load t x) (hF : FRel w g F tm) (h : vop P F o.op = some (pre, d)) : Gives P tm o w g d := by
  rw [ho] at h
  simp only [vop] at h
  split at h
  · rename_i cs off u s hx hu hs
    obtain ⟨k, base, f, hv, hS, h1, hc, hr⟩ := rep_sptr (evalT_of hF hx)
    have ex : ∀ {v : Value}, (loadVar t ⟨k, base + off, none⟩).run P w = .ok v w → (execOp (evalT tm) o).run P w = .ok (.value v) w := fun hl => by
      simp only [execOp, ho, hv, Instr.loadAt, Instr.sureAddr]
      simp [hl]
    cases ha : isAggB u with
    | true =>
      rw [ha] at h
      simp only [cond_true] at h
      split at h
      · rename_i r hr'
        cases h
        obtain ⟨hl, hi⟩ := takeR_spec cs off s r hr'
        refine .same (v := .agg ((List.range s).map fun i => f (off + i)).toArray) (ex (loadVar_agg P w hu ha hs _ (by simp) ?_)) (.agg (by simp [hl]) (fun d hd => ?_) ?_)
        · intro j v hj
          have hj' : j < s := by have := lt_of_getElem? hj; simpa using this
          simp only [List.getElem?_map, List.getElem?_range hj', Option.map_some, Option.some.injEq] at hj
          subst hj
          obtain ⟨d, hd, _⟩ := hi j hj'
          rw [Nat.add_assoc]
          exact hc (off + j) (lt_of_getElem? hd)
        · obtain ⟨i, hi', rfl⟩ := List.getElem_of_mem hd
          obtain ⟨d, h2, h3⟩ := hi i (by omega)
          have : r[i] = d := by rw [List.getElem?_eq_getElem hi'] at h3; simpa using h3
          rw [this]
          exact h1 d (List.mem_of_getElem? h2)
        · intro i d v hd hv'
          have his : i < s := by rw [← hl]; exact lt_of_getElem? hd
          obtain ⟨d', h2, h3⟩ := hi i his
          rw [hd] at h3
          cases h3
          simp only [List.getElem?_toArray, List.getElem?_map, List.getElem?_range his, Option.map_some, Option.some.injEq] at hv'
          subst hv'
          exact hr (off + i) d h2
      · cases h
    | false =>
      rw [ha] at h
      simp only [cond_false] at h
      split at h
      · rename_i d' hd
        cases h
        exact .same (ex (loadVar_one P w hu ha (hc off (lt_of_getElem? hd)))) (hr off _ hd)
      · cases h
  · cases h

theorem gives_nilCheck {x : Operand} (ho : o.op = .nilCheck x) (hF : FRel w g F tm) (h : vop P F o.op = some (pre, d)) : Gives P tm o w g d := by
  rw [ho] at h
  simp only [vop] at h
  split at h
  · rename_i b off hx
    cases h
    have hr := evalT_of hF hx
    obtain ⟨k, base, hv, _⟩ := rep_ptr hr
    exact .same (v := evalT tm x) (by simp [execOp, ho, hv]) hr
  · rename_i cs off hx
    cases h
    have hr := evalT_of hF hx
    obtain ⟨k, base, f, hv, _⟩ := rep_sptr hr
    exact .same (v := evalT tm x) (by simp [execOp, ho, hv]) hr
  · cases h

theorem gives_makeInterface {t : TypeId} {x : Operand} (ho : o.op = .makeInterface t x) (hF : FRel w g F tm) (h : vop P F o.op = some (pre, d)) : Gives P tm o w g d := by
  rw [ho] at h
  simp only [vop] at h
  split at h
  · cases h
  · rename_i u d' hne hu hx
    cases h
    refine .same (v := .iface t (evalT tm x)) ?_ (.iface (evalT_of hF hx))
    simp only [execOp, ho, Instr.makeInterface, Sem.run_bind, underlying_run hu, Result.andThen_ok]
    cases u <;> first | rfl | (exact absurd hu (fun h => hne _ h))
  · cases h

theorem evals_rep (hF : FRel w g F tm) : ∀ (xs : List Operand) (ds : List D), evals F xs = some ds → RepL w g ds (xs.map (evalT tm))
  | [], ds, h => by simp only [evals, Option.some.injEq] at h; subst h; exact ⟨rfl, by simp⟩
  | x :: r, ds, h => by
    simp only [evals] at h
    split at h
    · rename_i d ds' hx hr
      cases h
      obtain ⟨hl, hrep⟩ := evals_rep hF r ds' hr
      refine ⟨by simpa using hl, fun i y z hy hz => ?_⟩
      cases i with
      | zero => simp only [List.map_cons, List.getElem?_cons_zero, Option.some.injEq] at hy hz; subst hy; subst hz; exact evalT_of hF hx
      | succ i => exact hrep i y z (by simpa using hy) (by simpa using hz)
    · cases h

theorem gives_makeFunc {f : Fn} {a c : Array Operand} (ho : o.op = .makeFunc f a c) (hF : FRel w g F tm) (h : vop P F o.op = some (pre, d)) : Gives P tm o w g d := by
  rw [ho] at h
  cases f <;> simp only [vop] at h <;> try (cases h; done)
  rename_i f
  split at h
  · rename_i ds ha hc
    cases h
    have he := evals_rep hF _ _ hc
    have ha' : a = #[] := by cases a; simp_all
    subst ha'
    refine .same (v := .func (.func f) #[] (c.map (evalT tm))) (by simp [execOp, ho, Instr.makeFunc]) (.fn (by simpa using he.1) (fun i d v hd hv => he.2 i d v hd ?_))
    have : (c.map (evalT tm)).toList[i]? = some v := by simpa using hv
    simpa using this
  · cases h

theorem fieldPlace_run {f : Field} {s : Nat} (hs : tySize P f.type = some (s + 1)) (k off : Nat) : (fieldPlace ⟨k, off, none⟩ f).run P w = .ok ⟨k, off + f.offset, none⟩ w := by
  unfold fieldPlace
  simp only [Sem.run_bind, sizeOf_run P w hs, Result.andThen_ok]
  simp [add_none]

theorem gives_fieldAddr {s : TypeId} {x : Operand} {i : Nat} (ho : o.op = .fieldAddr s x i) (hF : FRel w g F tm) (h : vop P F o.op = some (pre, d)) : Gives P tm o w g d := by
  rw [ho] at h
  simp only [vop] at h
  split at h
  · rename_i fs d' hu hx
    split at h
    · rename_i f hf
      have hf' : fs[i]? = some f := by simpa using hf
      split at h
      · rename_i sz hs
        have ex : ∀ k off, evalT tm x = .pointer (some ⟨k, off, none⟩) → (execOp (evalT tm) o).run P w = .ok (.value (.pointer (some ⟨k, off + f.offset, none⟩))) w := fun k off hv => by
          simp only [execOp, ho, Instr.fieldAt, Sem.run_bind, underlying_run hu, Result.andThen_ok, hf', hv, Instr.sureAddr, Sem.run_pure, fieldPlace_run hs k off]
        split at h
        · cases h
          obtain ⟨k, base, hv, hρ⟩ := rep_ptr (evalT_of hF hx)
          exact .same (ex _ _ hv) (by rw [Nat.add_assoc]; exact .ptr hρ)
        · cases h
          obtain ⟨k, base, f', hv, hS, h1, hc, hr⟩ := rep_sptr (evalT_of hF hx)
          exact .same (ex _ _ hv) (by rw [Nat.add_assoc]; exact .sptr f' hS h1 hc hr)
        · cases h
      · cases h
    · cases h
  · cases h

theorem part_run {t : TypeId} {u : TypeDesc} {n off : Nat} {cs : List D} {vs : Array Value} (hu : P.underlying t = some u) (hn : tySize P t = some n) (hl : vs.size = cs.length) (h1 : ∀ d ∈ cs, d.one = true)
    (hr : ∀ (i : Nat) (d : D) (v : Value), cs[i]? = some d → vs[i]? = some v → Rep w g d v) :
    (isAggB u = true → ∀ r, takeR cs off n = some r → ∃ v, (part t vs off).run P w = .ok v w ∧ Rep w g (.agg r) v) ∧
    (isAggB u = false → ∀ d, cs[off]? = some d → ∃ v, (part t vs off).run P w = .ok v w ∧ Rep w g d v) := by
  constructor
  · intro ha r hr'
    obtain ⟨hlr, hi⟩ := takeR_spec cs off n r hr'
    refine ⟨.agg (vs.extract off (off + n)), ?_, .agg ?_ ?_ ?_⟩
    · simp [part, isAgg_run P w hu, ha, sizeOf_run P w hn]
    · rcases Nat.eq_zero_or_pos n with h0 | h0
      · subst h0; simp [hlr]; omega
      · obtain ⟨d, h2, _⟩ := hi (n - 1) (by omega)
        have := lt_of_getElem? h2
        rw [Array.size_extract, hlr, hl]; omega
    · intro d hd
      obtain ⟨i, hi', rfl⟩ := List.getElem_of_mem hd
      obtain ⟨d, h2, h3⟩ := hi i (by omega)
      have : r[i] = d := by rw [List.getElem?_eq_getElem hi'] at h3; simpa using h3
      rw [this]
      exact h1 d (List.mem_of_getElem? h2)
    · intro i d v hd hv
      have his : i < n := by rw [← hlr]; exact lt_of_getElem? hd
      obtain ⟨d', h2, h3⟩ := hi i his
      rw [hd] at h3
      cases h3
      refine hr (off + i) d v h2 ?_
      rw [Array.getElem?_extract] at hv
      split at hv
      · exact hv
      · cases hv
  · intro ha d hd
    have hlt : off < vs.size := by rw [hl]; exact lt_of_getElem? hd
    refine ⟨vs[off], ?_, hr off d _ hd (by simp)⟩
    simp [part, isAgg_run P w hu, ha, hlt]

theorem gives_field {s : TypeId} {x : Operand} {i : Nat} (ho : o.op = .field s x i) (hF : FRel w g F tm) (h : vop P F o.op = some (pre, d)) : Gives P tm o w g d := by
  rw [ho] at h
  simp only [vop] at h
  split at h
  · rename_i fs cs hu hx
    split at h
    · rename_i f hf
      have hf' : fs[i]? = some f := by simpa using hf
      split at h
      · rename_i u n hfu hn
        obtain ⟨vs, hv, hl, h1, hr⟩ := rep_agg (evalT_of hF hx)
        have pr := part_run (P := P) (off := f.offset) hfu hn hl h1 hr
        have ex : ∀ {v : Value}, (part f.type vs f.offset).run P w = .ok v w → (execOp (evalT tm) o).run P w = .ok (.value v) w := fun hp => by
          simp only [execOp, ho, Instr.field, Sem.run_bind, underlying_run hu, Result.andThen_ok, hf', hv, asAgg, Sem.run_pure, hp]
        cases ha : isAggB u with
        | true =>
          rw [ha] at h
          simp only [cond_true] at h
          split at h
          · rename_i r hr'
            cases h
            obtain ⟨v, a, b⟩ := pr.1 ha r hr'
            exact .same (ex a) b
          · cases h
        | false =>
          rw [ha] at h
          simp only [cond_false] at h
          split at h
          · rename_i d' hd
            cases h
            obtain ⟨v, a, b⟩ := pr.2 ha _ hd
            exact .same (ex a) b
          · cases h
      · cases h
    · cases h
  · cases h

theorem rep_snap {cs : List D} {len : Nat} {t : Bool} {v : Value} (h : Rep w g (.snap cs len t) v) : ∃ (a : Option Addr) (k base cap : Nat) (f : Nat → Value), v = .slice a len cap ∧ (a = some ⟨k, base, none⟩ ∨ (len = 0 ∧ cap = 0 ∧ cs = [])) ∧ (cs ≠ [] → g.S k) ∧ (∀ d ∈ cs, d.one = true) ∧
    len ≤ cap ∧ (t = true → cap = len) ∧ (∀ i : Nat, i < cs.length → w.cell? ⟨k, base + i, none⟩ = some (f i)) ∧ ∀ (i : Nat) (d : D), cs[i]? = some d → Rep w g d (f i) := by
  cases h with
  | snap f hS h1 hl ht hc hr => exact ⟨_, _, _, _, f, rfl, .inl rfl, hS, h1, hl, ht, hc, hr⟩
  | snapNil a t => exact ⟨a, 0, 0, 0, fun _ => default, rfl, .inr ⟨rfl, rfl, rfl⟩, by simp, by simp, Nat.le_refl _, by simp, by simp, by simp⟩

theorem rep_live {b off len c sz : Nat} {v : Value} (h : Rep w g (.live b off len c sz) v) : ∃ (k base x cap : Nat), v = .slice (some ⟨k, x, none⟩) len cap ∧ g.ρ b = some (k, base) ∧ (cap = 0 ∨ x = base + off) ∧ len ≤ c ∧ c ≤ cap ∧
    (cap = 0 ∨ ∃ n, cellsN w k = some n ∧ x + cap * sz ≤ n) := by
  cases h with
  | live h hx hl hc hn => exact ⟨_, _, _, _, rfl, h, hx, hl, hc, hn⟩

theorem gives_indexAddr {t : TypeId} {x i : Operand} (ho : o.op = .indexAddr t x i) (hF : FRel w g F tm) (h : vop P F o.op = some (pre, d)) (hp : pre) : Gives P tm o w g d := by
  rw [ho] at h
  simp only [vop] at h
  split at h
  · rename_i e d' kk n hu hx hi
    have hi' := rep_int (evalT_of hF hi)
    split at h
    · rename_i s hs
      have ex : ∀ k off len cap, evalT tm x = .slice (some ⟨k, off, none⟩) len cap → 0 ≤ n → n < len → (execOp (evalT tm) o).run P w = .ok (.value (.pointer (some ⟨k, off + n.toNat * s, none⟩))) w := fun k off len cap hv h0 h1 => by
        simp only [execOp, ho, Instr.indexAt, Sem.run_bind, hi', asIntOf, Sem.run_pure, underlying_run hu, Result.andThen_ok, hv, sizeOf_run P w hs]
        simp [h0, h1, add_none, sizeOf_run P w hs]
      split at h
      · cases h
        obtain ⟨a, k, base, cap, f, hv, ha, hS, h1, hl, ht, hc, hr⟩ := rep_snap (evalT_of hF hx)
        obtain rfl := ha.resolve_right (fun h => by have := hp.1; have := hp.2; omega)
        exact .same (ex _ _ _ _ hv hp.1 hp.2) (.sptr f hS h1 hc hr)
      · cases h
        obtain ⟨k, base, x', cap, hv, hρ, hxx, hl, hc, hn⟩ := rep_live (evalT_of hF hx)
        have : cap ≠ 0 := by have := hp.2; have := hp.1; omega
        obtain rfl := hxx.resolve_left this
        exact .same (ex _ _ _ _ hv hp.1 hp.2) (by rw [Nat.add_assoc]; exact .ptr hρ)
      · cases h
    · cases h
  · rename_i len e d' kk n hu hx hi
    have hi' := rep_int (evalT_of hF hi)
    split at h
    · rename_i s hs
      have ex : ∀ k off, evalT tm x = .pointer (some ⟨k, off, none⟩) → 0 ≤ n → n < len → (execOp (evalT tm) o).run P w = .ok (.value (.pointer (some ⟨k, off + n.toNat * s, none⟩))) w := fun k off hv h0 h1 => by
        simp only [execOp, ho, Instr.indexAt, Sem.run_bind, hi', asIntOf, Sem.run_pure, underlying_run hu, Result.andThen_ok, hv, sizeOf_run P w hs, Instr.sureAddr]
        simp [h0, h1, add_none, sizeOf_run P w hs]
      split at h
      · cases h
        obtain ⟨k, base, f, hv, hS, h1, hc, hr⟩ := rep_sptr (evalT_of hF hx)
        exact .same (ex _ _ hv hp.1 hp.2) (by rw [Nat.add_assoc]; exact .sptr f hS h1 hc hr)
      · cases h
        obtain ⟨k, base, hv, hρ⟩ := rep_ptr (evalT_of hF hx)
        exact .same (ex _ _ hv hp.1 hp.2) (by rw [Nat.add_assoc]; exact .ptr hρ)
      · cases h
    · cases h
  · cases h

theorem gives_index {t : TypeId} {x i : Operand} (ho : o.op = .index t x i) (hF : FRel w g F tm) (h : vop P F o.op = some (pre, d)) (hp : pre) : Gives P tm o w g d := by
  rw [ho] at h
  simp only [vop] at h
  split at h
  · rename_i len e cs kk n hu hx hi
    have hi' := rep_int (evalT_of hF hi)
    split at h
    · rename_i u s hue hs
      obtain ⟨vs, hv, hl, h1, hr⟩ := rep_agg (evalT_of hF hx)
      cases hb : (isAggB u || !Nat.beq s 1) with
      | true => rw [hb] at h; cases h
      | false =>
        rw [hb] at h
        simp only [cond_false, Option.some.injEq, Prod.mk.injEq] at h
        obtain ⟨rfl, rfl⟩ := h
        simp only [Bool.or_eq_false_iff, Bool.not_eq_false'] at hb
        have hs1 := Nat.eq_of_beq_eq_true hb.2
        subst hs1
        obtain ⟨⟨h0, hn⟩, hc⟩ := hp
        have hd : cs[n.toNat]? = some (cs.getD n.toNat .inil) := by simp [List.getD_eq_getElem?_getD, hc]
        obtain ⟨v, a, b⟩ := (part_run (P := P) (off := n.toNat) hue hs hl h1 hr).2 hb.1 _ hd
        refine .same (v := v) ?_ b
        simp only [execOp, ho, Instr.index, Sem.run_bind, hi', asIntOf, Sem.run_pure, underlying_run hu, Result.andThen_ok, hv]
        simp [h0, hn, sizeOf_run P w hs, a]
    · cases h
  · rename_i s kk n hu hx hi
    cases h
    have hi' := rep_int (evalT_of hF hi)
    have hs := rep_str (evalT_of hF hx)
    have hlt : n.toNat < s.size := by omega
    refine .same (v := .int .u8 ((s.data.toList.getD n.toNat 0).toNat : Int)) ?_ (.int _ _)
    simp only [execOp, ho, Instr.index, Sem.run_bind, hi', asIntOf, Sem.run_pure, underlying_run hu, Result.andThen_ok, hs]
    have hb : s[n.toNat]? = some (s.data.toList.getD n.toNat 0) := by
      rw [getElem?_pos s n.toNat hlt]
      congr 1
      have : n.toNat < s.data.toList.length := by simpa using hlt
      rw [List.getD_eq_getElem?_getD, List.getElem?_eq_getElem this]
      rfl
    simp only [hp.1, if_true, hb]
    rfl
  · cases h

theorem gives_extract {x : Operand} {i : Nat} (ho : o.op = .extract x i) (hF : FRel w g F tm) (h : vop P F o.op = some (pre, d)) : Gives P tm o w g d := by
  rw [ho] at h
  simp only [vop] at h
  split at h
  · rename_i ds hx
    split at h
    · rename_i d' hd
      cases h
      obtain ⟨vs, hv, hl, hr⟩ := rep_tup (evalT_of hF hx)
      have hlt : i < vs.size := by rw [hl]; exact lt_of_getElem? hd
      exact .same (v := vs[i]) (by simp [execOp, ho, hv, Instr.extract, hlt]) (hr i _ _ hd (by simp))
    · cases h
  · cases h

theorem zeroD_run {t : TypeId} {z : D} (h : zeroD P t = some z) : ∃ v, (zeroValue t).run P w = .ok v w ∧ Rep w g z v := by
  unfold zeroD at h
  split at h
  · rename_i i hi
    split at h
    · rename_i v hz
      refine ⟨v, by simp [zeroValue, typeInfo, hi, hz], ?_⟩
      exact evalT_of (F := []) (tm := #[]) (x := .const v) (fun t d hd => by cases hd) h
    · cases h
  · cases h

theorem gives_typeAssert {x : Operand} {a b : TypeId} {ok : Bool} (ho : o.op = .typeAssert x a b ok) (hF : FRel w g F tm) (h : vop P F o.op = some (pre, d)) : Gives P tm o w g d := by
  rw [ho] at h
  simp only [vop] at h
  split at h
  · cases h
  · rename_i u t d' hne hu hx
    have hr := evalT_of hF hx
    obtain ⟨v, hv, hrv⟩ : ∃ v, evalT tm x = .iface t v ∧ Rep w g d' v := by
      generalize evalT tm x = y at hr
      cases hr with
      | iface hr => exact ⟨_, rfl, hr⟩
    cases htb : Nat.beq t b with
    | true =>
      rw [htb] at h
      obtain rfl := Nat.eq_of_beq_eq_true htb
      simp only [cond_true] at h
      have hex : ∀ vv, (if ok then Value.tuple #[v, .bool true] else v) = vv → (execOp (evalT tm) o).run P w = .ok (.value vv) w := fun vv hvv => by
        subst hvv
        simp only [execOp, ho, Instr.typeAssert, Sem.run_bind, underlying_run hu, Result.andThen_ok, hv]
        cases u <;> first | (exact absurd hu (fun h => hne _ h)) | simp
      cases ok with
      | true => cases h; exact .same (hex _ rfl) (.tup rfl (by
          intro i d v' hd hv'
          match i with
          | 0 => simp at hd hv'; subst hd; subst hv'; exact hrv
          | 1 => simp at hd hv'; subst hd; subst hv'; exact .bool _
          | i + 2 => simp at hd))
      | false => cases h; exact .same (hex _ rfl) hrv
    | false =>
      rw [htb] at h
      simp only [cond_false] at h
      have htne : t ≠ b := fun e => by subst e; rw [Nat.beq_refl] at htb; cases htb
      cases ok with
      | false => cases h
      | true =>
        simp only [cond_true] at h
        split at h
        · rename_i z hz
          cases h
          obtain ⟨zv, hzr, hzrep⟩ := zeroD_run (P := P) (w := w) (g := g) hz
          refine .same (v := .tuple #[zv, .bool false]) ?_ (.tup rfl (by
            intro i d v' hd hv'
            match i with
            | 0 => simp at hd hv'; subst hd; subst hv'; exact hzrep
            | 1 => simp at hd hv'; subst hd; subst hv'; exact .bool _
            | i + 2 => simp at hd))
          simp only [execOp, ho, Instr.typeAssert, Sem.run_bind, underlying_run hu, Result.andThen_ok, hv]
          cases u <;> first | (exact absurd hu (fun h => hne _ h)) | simp [htne, hzr]
        · cases h
  · rename_i u hne hu hx
    have hr := evalT_of hF hx
    have hv : evalT tm x = .nilIface := by
      generalize evalT tm x = y at hr
      cases hr; rfl
    cases ok with
    | false => cases h
    | true =>
      simp only [cond_true] at h
      split at h
      · rename_i z hz
        cases h
        obtain ⟨zv, hzr, hzrep⟩ := zeroD_run (P := P) (w := w) (g := g) hz
        refine .same (v := .tuple #[zv, .bool false]) ?_ (.tup rfl (by
          intro i d v' hd hv'
          match i with
          | 0 => simp at hd hv'; subst hd; subst hv'; exact hzrep
          | 1 => simp at hd hv'; subst hd; subst hv'; exact .bool _
          | i + 2 => simp at hd))
        simp only [execOp, ho, Instr.typeAssert, Sem.run_bind, underlying_run hu, Result.andThen_ok, hv]
        cases u <;> first | (exact absurd hu (fun h => hne _ h)) | simp [hzr]
      · cases h
  · cases h
end
end Go.V
