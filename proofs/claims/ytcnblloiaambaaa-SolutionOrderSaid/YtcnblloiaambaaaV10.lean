/- The logic V, part 10: vop is sound: slices, len, build. -/
import Derived.Test.YtcnblloiaambaaaV9
namespace Go.V
section
variable {P : Program} {w w' : World} {g g' : Gh} {H : Hp} {F : Fr} {tm : Array Value} {o : Oper} {pre : Prop} {d : D}

theorem bound_run (hF : FRel w g F tm) {x : Option Operand} {dflt n : Int} (h : bound F x dflt = some n) : (x = none ∧ n = dflt) ∨ ∃ y k, x = some y ∧ evalT tm y = .int k n := by
  cases x with
  | none => simp only [bound, Option.some.injEq] at h; exact .inl ⟨rfl, h.symm⟩
  | some y =>
    simp only [bound] at h
    split at h
    · rename_i k n' hy
      cases h
      exact .inr ⟨y, k, rfl, rep_int (evalT_of hF hy)⟩
    · cases h

theorem sliceBounds2 (len cap : Nat) (l h : Int) (lo hi : Option Value) (hl : (lo = none ∧ l = 0) ∨ ∃ k, lo = some (.int k l)) (hh : (hi = none ∧ h = len) ∨ ∃ k, hi = some (.int k h)) (h0 : 0 ≤ l) (h1 : l ≤ h) (h2 : h ≤ cap) :
    (Instr.sliceBounds true len cap lo hi none).run P w = .ok (l.toNat, h.toNat, cap) w := by
  have hh0 : 0 ≤ h := by omega
  have e2 : (h.toNat : Int) = h := Int.toNat_of_nonneg hh0
  rcases hl with ⟨rfl, rfl⟩ | ⟨k, rfl⟩ <;> rcases hh with ⟨rfl, rfl⟩ | ⟨k', rfl⟩
  · simp [Instr.sliceBounds]
  · simp [Instr.sliceBounds, run_sliceBound w k' h cap _ hh0 h2]
  · simp [Instr.sliceBounds, run_sliceBound w k l len _ h0 h1]
  · simp [Instr.sliceBounds, run_sliceBound w k' h cap _ hh0 h2, run_sliceBound w k l h.toNat _ h0 (by omega)]

theorem sliceBounds3 (len cap : Nat) (l h m : Int) (lo : Option Value) (k2 k3 : IntKind) (hl : (lo = none ∧ l = 0) ∨ ∃ k, lo = some (.int k l)) (h0 : 0 ≤ l) (h1 : l ≤ h) (h2 : h ≤ m) (h3 : m ≤ cap) :
    (Instr.sliceBounds true len cap lo (some (.int k2 h)) (some (.int k3 m))).run P w = .ok (l.toNat, h.toNat, m.toNat) w := by
  have hh0 : 0 ≤ h := by omega
  have hm0 : 0 ≤ m := by omega
  rcases hl with ⟨rfl, rfl⟩ | ⟨k, rfl⟩
  · simp [Instr.sliceBounds, run_sliceBound w k3 m cap _ hm0 h3, run_sliceBound w k2 h m.toNat _ hh0 (by omega)]
  · simp [Instr.sliceBounds, run_sliceBound w k3 m cap _ hm0 h3, run_sliceBound w k2 h m.toNat _ hh0 (by omega), run_sliceBound w k l h.toNat _ h0 (by omega)]

theorem sliceAt_run {t e : TypeId} {s : Nat} (ht : P.underlying t = some (.slice e)) (hs : tySize P e = some s) {a : Option Addr} {len cap l h m : Nat} {lo hi mx : Option Value}
    (hb : (Instr.sliceBounds true len cap lo hi mx).run P w = .ok (l, h, m) w) :
    (Instr.sliceAt t (.slice a len cap) lo hi mx).run P w = .ok (.slice (if m = l then a else a.map (·.add (l * s))) (h - l) (m - l)) w := by
  simp only [Instr.sliceAt, Sem.run_bind, underlying_run ht, Result.andThen_ok, Instr.slice, hb, sizeOf_run P w hs, Sem.run_pure]

theorem snap_slice {cs : List D} {len cap k base : Nat} {f : Nat → Value} (hS : cs ≠ [] → g.S k) (h1 : ∀ d ∈ cs, d.one = true)
    (hc : ∀ i : Nat, i < cs.length → w.cell? ⟨k, base + i, none⟩ = some (f i)) (hr : ∀ (i : Nat) (d : D), cs[i]? = some d → Rep w g d (f i))
    {l h m s : Nat} {tight : Bool} (hlh : l ≤ h) (hhm : h ≤ m) (ht : tight = true → m = h) (_ : m ≤ cap) (_ : len ≤ cap) :
    Rep w g (.snap ((cs.drop (l * s)).take ((h - l) * s)) (h - l) tight) (.slice (if m = l then some ⟨k, base, none⟩ else (some ⟨k, base, none⟩ : Option Addr).map (·.add (l * s))) (h - l) (m - l)) := by
  have hmem : ∀ d ∈ (cs.drop (l * s)).take ((h - l) * s), d ∈ cs := fun d hd => List.mem_of_mem_drop (List.mem_of_mem_take hd)
  by_cases hml : m = l
  · have : h = l := by omega
    subst hml; subst this
    simp only [if_true, Nat.sub_self, Nat.zero_mul, List.take_zero]
    exact .snap f (by simp) (by simp) (Nat.le_refl _) (by simp) (by simp) (by simp)
  · simp only [hml, if_false, Option.map_some, add_none]
    refine .snap (fun i => f (l * s + i)) (fun hne => hS (fun e => hne (by simp [e]))) (fun d hd => h1 d (hmem d hd)) (by omega) (fun h => by have := ht h; omega) ?_ ?_
    · intro i hi
      have hi' : l * s + i < cs.length := by simp at hi; omega
      rw [Nat.add_assoc]
      exact hc _ hi'
    · intro i d hd
      refine hr (l * s + i) d ?_
      rw [List.getElem?_take] at hd
      split at hd
      · rwa [List.getElem?_drop] at hd
      · cases hd

theorem gives_slice {t : TypeId} {x : Operand} {lo hi mx : Option Operand} (ho : o.op = .slice t x lo hi mx) (hF : FRel w g F tm) (h : vop P F o.op = some (pre, d)) (hp : pre) : Gives P tm o w g d := by
  rw [ho] at h
  simp only [vop] at h
  split at h
  · rename_i e d' hu hx
    split at h
    · rename_i s l hh hs hlo hhi
      have hx' := evalT_of hF hx
      have hl' : (lo.map (evalT tm) = none ∧ l = 0) ∨ ∃ k, lo.map (evalT tm) = some (.int k l) := by
        rcases bound_run hF hlo with ⟨rfl, rfl⟩ | ⟨y, k, rfl, hy⟩
        · exact .inl ⟨rfl, rfl⟩
        · exact .inr ⟨k, by simp [hy]⟩
      have hh' : (hi.map (evalT tm) = none ∧ hh = lenD d') ∨ ∃ k, hi.map (evalT tm) = some (.int k hh) := by
        rcases bound_run hF hhi with ⟨rfl, rfl⟩ | ⟨y, k, rfl, hy⟩
        · exact .inl ⟨rfl, rfl⟩
        · exact .inr ⟨k, by simp [hy]⟩
      have ex : ∀ {v : Value}, (Instr.sliceAt t (evalT tm x) (lo.map (evalT tm)) (hi.map (evalT tm)) (mx.map (evalT tm))).run P w = .ok v w → (execOp (evalT tm) o).run P w = .ok (.value v) w := fun hr => by
        rw [execOp]
        simp only [ho, Sem.run_bind, hr, Result.andThen_ok, Sem.run_pure]
      split at h
      · -- two indices
        unfold sliceD2 at h
        split at h
        · rename_i cs len tight
          cases h
          obtain ⟨h0, h1, h2⟩ := hp
          obtain ⟨a, k, base, cap, f, hv, ha, hS, h1', hl, ht, hc, hr⟩ := rep_snap hx'
          have hb := sliceBounds2 (P := P) (w := w) len cap l hh (lo.map (evalT tm)) (hi.map (evalT tm)) hl' (by simpa [lenD] using hh') h0 h1 (by omega)
          have hrun := sliceAt_run (P := P) (a := a) hu hs hb
          rw [← hv] at hrun
          rcases ha with rfl | ⟨rfl, rfl, rfl⟩
          rotate_left
          · have e1 : l.toNat = 0 := by omega
            have e2 : hh.toNat = 0 := by omega
            refine .same (ex hrun) ?_
            rw [e1, e2]
            simp only [List.drop_nil, List.take_nil, Nat.sub_self, if_true]; exact .snapNil _ _
          exact .same (ex hrun) (snap_slice hS h1' hc hr (by omega) (by omega) (fun e => by simp at e; have := ht e.1; omega) (Nat.le_refl _) hl)
        · rename_i b off len c z
          cases hz : Nat.beq z s with
          | false => rw [hz] at h; cases h
          | true =>
            rw [hz] at h
            obtain rfl := Nat.eq_of_beq_eq_true hz
            cases h
            obtain ⟨h0, h1, h2⟩ := hp
            obtain ⟨k, base, x', cap, hv, hρ, hxx, hl, hc, hn⟩ := rep_live hx'
            have hb := sliceBounds2 (P := P) (w := w) len cap l hh (lo.map (evalT tm)) (hi.map (evalT tm)) hl' (by simpa [lenD] using hh') h0 h1 (by omega)
            have hrun := sliceAt_run (P := P) (a := some ⟨k, x', none⟩) hu hs hb
            rw [← hv] at hrun
            refine .same (ex hrun) ?_
            by_cases hml : cap = l.toNat
            · simp only [hml, if_true, Nat.sub_self]
              exact .live hρ (.inl rfl) (by omega) (by omega) (.inl rfl)
            · simp only [hml, if_false, Option.map_some, add_none]
              have hc0 : cap ≠ 0 := by omega
              obtain rfl := hxx.resolve_left hc0
              obtain ⟨n, hn1, hn2⟩ := hn.resolve_left hc0
              refine .live hρ (.inr (by omega)) (by omega) (by omega) (.inr ⟨n, hn1, ?_⟩)
              have : cap * z = l.toNat * z + (cap - l.toNat) * z := by rw [← Nat.add_mul]; congr 1; omega
              omega
        · cases h
          obtain ⟨rfl, rfl⟩ := hp
          have hv : evalT tm x = .slice none 0 0 := by
            generalize evalT tm x = y at hx'
            cases hx'; rfl
          have hb := sliceBounds2 (P := P) (w := w) 0 0 0 0 (lo.map (evalT tm)) (hi.map (evalT tm)) hl' (by simpa [lenD] using hh') (by omega) (by omega) (by omega)
          have hrun := sliceAt_run (P := P) (a := none) hu hs hb
          rw [← hv] at hrun
          exact .same (ex hrun) .snil
        · cases h
      · -- three
        rename_i ymx
        split at h
        · rename_i yhi km m hm
          have hm' := rep_int (evalT_of hF hm)
          obtain ⟨k2, hk2⟩ : ∃ k, evalT tm yhi = .int k hh := by
            rcases hh' with ⟨e, _⟩ | ⟨k, e⟩
            · cases e
            · exact ⟨k, by simpa using e⟩
          simp only [Option.map_some, hm', hk2] at ex
          unfold sliceD3 at h
          split at h
          · rename_i cs len tight
            cases h
            obtain ⟨h0, h1, h2, h3⟩ := hp
            obtain ⟨a, k, base, cap, f, hv, ha, hS, h1', hl, ht, hc, hr⟩ := rep_snap hx'
            have hb := sliceBounds3 (P := P) (w := w) len cap l hh m (lo.map (evalT tm)) k2 km hl' h0 h1 h2 (by omega)
            have hrun := sliceAt_run (P := P) (a := a) hu hs hb
            rw [← hv] at hrun
            rcases ha with rfl | ⟨rfl, rfl, rfl⟩
            rotate_left
            · have e1 : l.toNat = 0 := by omega
              have e2 : hh.toNat = 0 := by omega
              have e3 : m.toNat = 0 := by omega
              refine .same (ex hrun) ?_
              rw [e1, e2, e3]
              simp only [List.drop_nil, List.take_nil, Nat.sub_self, if_true]; exact .snapNil _ _
            exact .same (ex hrun) (snap_slice hS h1' hc hr (by omega) (by omega) (fun e => by have := of_decide_eq_true e; omega) (by omega) hl)
          · rename_i b off len c z
            cases hz : Nat.beq z s with
            | false => rw [hz] at h; cases h
            | true =>
              rw [hz] at h
              obtain rfl := Nat.eq_of_beq_eq_true hz
              cases h
              obtain ⟨h0, h1, h2, h3⟩ := hp
              obtain ⟨k, base, x', cap, hv, hρ, hxx, hl, hc, hn⟩ := rep_live hx'
              have hb := sliceBounds3 (P := P) (w := w) len cap l hh m (lo.map (evalT tm)) k2 km hl' h0 h1 h2 (by omega)
              have hrun := sliceAt_run (P := P) (a := some ⟨k, x', none⟩) hu hs hb
              rw [← hv] at hrun
              refine .same (ex hrun) ?_
              by_cases hml : m.toNat = l.toNat
              · simp only [hml, if_true, Nat.sub_self]
                exact .live hρ (.inl rfl) (by omega) (by omega) (.inl rfl)
              · simp only [hml, if_false, Option.map_some, add_none]
                have hc0 : cap ≠ 0 := by omega
                obtain rfl := hxx.resolve_left hc0
                obtain ⟨n, hn1, hn2⟩ := hn.resolve_left hc0
                refine .live hρ (.inr (by omega)) (by omega) (by omega) (.inr ⟨n, hn1, ?_⟩)
                have h4 : l.toNat * z + (m.toNat - l.toNat) * z = m.toNat * z := by rw [← Nat.add_mul]; congr 1; omega
                have h5 : m.toNat * z ≤ cap * z := Nat.mul_le_mul_right _ (by omega)
                omega
          · cases h
            obtain ⟨rfl, rfl, rfl⟩ := hp
            have hv : evalT tm x = .slice none 0 0 := by
              generalize evalT tm x = y at hx'
              cases hx'; rfl
            have hb := sliceBounds3 (P := P) (w := w) 0 0 0 0 0 (lo.map (evalT tm)) k2 km hl' (by omega) (by omega) (by omega) (by omega)
            have hrun := sliceAt_run (P := P) (a := none) hu hs hb
            rw [← hv] at hrun
            exact .same (ex hrun) .snil
          · cases h
        · cases h
    · cases h
  · rename_i n e cs off hu hx
    split at h
    · rename_i s hs
      cases h
      obtain ⟨k, base, f, hv, hS, h1, hc, hr⟩ := rep_sptr (evalT_of hF hx)
      have ex : (execOp (evalT tm) o).run P w = .ok (.value (.slice (some ⟨k, base + off, none⟩) n n)) w := by
        rw [execOp]
        simp only [ho, Option.map_none, Instr.sliceAt, Sem.run_bind, underlying_run hu, Result.andThen_ok, hv, Instr.sureAddr, Sem.run_pure, Instr.sliceBounds, sizeOf_run P w hs]
        by_cases hn : n = 0
        · subst hn; simp
        · simp [hn, add_none]
      refine .same ex (.snap (fun i => f (off + i)) (fun hne => hS (fun e => hne (by simp [e]))) (fun d hd => h1 d (List.mem_of_mem_drop (List.mem_of_mem_take hd))) (Nat.le_refl _) (fun _ => rfl) ?_ ?_)
      · intro i hi
        have hi' : off + i < cs.length := by simp at hi; omega
        rw [Nat.add_assoc]
        exact hc _ hi'
      · intro i d hd
        refine hr (off + i) d ?_
        rw [List.getElem?_take] at hd
        split at hd
        · rwa [List.getElem?_drop] at hd
        · cases hd
    · cases h
  · cases h
end
end Go.V
