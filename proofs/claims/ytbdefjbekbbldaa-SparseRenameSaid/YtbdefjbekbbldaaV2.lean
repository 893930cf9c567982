import Derived.Test.YtbdefjbekbbldaaV1
set_option linter.unusedVariables false
set_option linter.unusedSimpArgs false
set_option linter.unnecessarySimpa false
/- The logic V, part 14: the operations that touch the heap: what they give, as rules on the abstract heap. -/
namespace Go.V

def applyW (H : Hp) : List (Nat × Option Blk) → Hp
  | [] => H
  | (b, some x) :: r => applyW (putAt H b x) r
  | (b, none) :: r => applyW (H.set b none) r

/-- What a slice that is read gives: its length, its cells. -/
inductive Src (H : Hp) (s : Nat) : D → Nat → List D → List Nat → Prop where
  | snil : Src H s .snil 0 [] []
  | snap {cs : List D} {n : Nat} {t : Bool} (h : cs.length = n * s) : Src H s (.snap cs n t) n cs []
  | live {b off n c : Nat} {cs : List D} (hb : H[b]? = some (some (.cells cs))) (h : off + n * s ≤ cs.length) : Src H s (.live b off n c s) n ((cs.drop off).take (n * s)) [b]

section
variable {P : Program} {w w' : World} {g g' : Gh} {H : Hp} {F : Fr} {tm : Array Value} {N nx : Nat}

theorem src_run (hH : HRel w g H) {s n : Nat} {d : D} {cs : List D} {rd : List Nat} (h : Src H s d n cs rd) {v : Value} (hr : Rep w g d v) :
    ∃ (a : Option Addr) (cap : Nat) (news : List Value), v = .slice a n cap ∧ (Builtin.firstCells s n v).run P w = .ok news.toArray w ∧ RepL w g cs news ∧ news.length = n * s ∧ (∀ d ∈ cs, d.one = true) := by
  cases h with
  | snil =>
    cases hr
    exact ⟨none, 0, [], rfl, by simp [Builtin.firstCells], ⟨rfl, by simp⟩, by simp, by simp⟩
  | snap hl =>
    obtain ⟨a, k, base, cap, f, rfl, ha, hS, h1, hle, ht, hc, hrr⟩ := rep_snap hr
    rcases ha with rfl | ⟨rfl, rfl, rfl⟩
    rotate_left
    · exact ⟨a, 0, [], rfl, by cases a <;> simp [Builtin.firstCells, loadCells, loadCellsFrom], ⟨rfl, by simp⟩, by simp, by simp⟩
    refine ⟨_, cap, (List.range (n * s)).map f, rfl, ?_, ⟨by simp [hl], fun i d v hd hv => ?_⟩, by simp, h1⟩
    · have := run_loadCells_list (P := P) (w := w) ⟨k, base, none⟩ ((List.range (n * s)).map f) (fun j v hj => by
        have hj' : j < n * s := by have := lt_of_getElem? hj; simpa using this
        simp only [List.getElem?_map, List.getElem?_range hj', Option.map_some, Option.some.injEq] at hj
        subst hj
        rw [add_none]
        exact hc j (by omega))
      simp only [List.length_map, List.length_range] at this
      simp only [Builtin.firstCells, this]
    · have hj' : i < n * s := by rw [← hl]; exact lt_of_getElem? hd
      simp only [List.getElem?_map, List.getElem?_range hj', Option.map_some, Option.some.injEq] at hv
      subst hv
      exact hrr i d hd
  | @live b off _ c cs0 hb hle =>
    obtain ⟨k, base, x, cap, rfl, hρ, hx, hl, hc, hn⟩ := rep_live hr
    obtain ⟨k', base', arr, e, hρ', hk, hsz, hone, hcell⟩ := hH.blk b cs0 hb
    rw [hρ] at hρ'
    obtain ⟨rfl, rfl⟩ : k = k' ∧ base = base' := by simpa using hρ'
    have hin : ∀ i, i < n * s → x = base + off ∧ ∃ d v, cs0[off + i]? = some d ∧ arr[base + (off + i)]? = some v ∧ Rep w g d v := by
      intro i hi
      have hc0 : cap ≠ 0 := by rintro rfl; have : n = 0 := by omega
                               subst this; simp at hi
      refine ⟨hx.resolve_left hc0, cs0[off + i], ?_⟩
      obtain ⟨v, hv, hrv⟩ := hcell (off + i) cs0[off + i] (by simp)
      exact ⟨v, by simp, hv, hrv⟩
    refine ⟨_, cap, (List.range (n * s)).map fun i => (arr[base + (off + i)]?).getD default, rfl, ?_, ⟨by simp; omega, fun i d v hd hv => ?_⟩, by simp, fun d hd => hone d (List.mem_of_mem_drop (List.mem_of_mem_take hd))⟩
    · have := run_loadCells_list (P := P) (w := w) ⟨k, x, none⟩ ((List.range (n * s)).map fun i => (arr[base + (off + i)]?).getD default) (fun j v hj => by
        have hj' : j < n * s := by have := lt_of_getElem? hj; simpa using this
        simp only [List.getElem?_map, List.getElem?_range hj', Option.map_some, Option.some.injEq] at hj
        subst hj
        obtain ⟨rfl, d, v, _, hv, _⟩ := hin j hj'
        rw [add_none, Nat.add_assoc]
        simp [World.cell?, hk, hv])
      simp only [List.length_map, List.length_range] at this
      simp only [Builtin.firstCells, this]
    · have hlen := lt_of_getElem? hd
      have hj' : i < n * s := by simp at hlen; omega
      simp only [List.getElem?_map, List.getElem?_range hj', Option.map_some, Option.some.injEq] at hv
      subst hv
      obtain ⟨_, d', v, h1, hv, hrv⟩ := hin i hj'
      rw [List.getElem?_take, if_pos hj', List.getElem?_drop, h1] at hd
      cases hd
      simpa [hv] using hrv

theorem append_fit {t ty e : TypeId} {s n sLen sCap : Nat} {base : Option Addr} {x : Value} {new : List Value} (ht : P.underlying t = some (.slice e)) (hs : tySize P e = some s)
    (hx : ∃ a c, x = .slice a n c) (hnew : (Builtin.firstCells s n x).run P w = .ok new.toArray w) (hfit : sLen + n ≤ sCap) :
    (Builtin.append_ #[t, t] ty #[.slice base sLen sCap, x]).run P w =
      ((match base with | some a => storeCells (a.add (sLen * s)) new | none => pure () : Sem Unit).run P w).andThen fun _ w' => .ok (.slice base (sLen + n) sCap) w' := by
  obtain ⟨a, c, rfl⟩ := hx
  cases base <;> simp [Builtin.append_, underlying_run ht, sizeOf_run P w hs, Builtin.lenOf, hfit, hnew]

theorem append_grow {t ty e : TypeId} {i : TypeInfo} {z : Value} {n sLen sCap : Nat} {base : Option Addr} {x : Value} {old new : List Value} (ht : P.underlying t = some (.slice e)) (hi : P.info? e = some i) (hz : i.zero = some z)
    (hx : ∃ a c, x = .slice a n c) (hnew : (Builtin.firstCells i.size n x).run P w.drew = .ok new.toArray w.drew) (hold : (Builtin.firstCells i.size sLen (.slice base sLen sCap)).run P w.drew = .ok old.toArray w.drew)
    (hg : ¬ sLen + n ≤ sCap) (h63 : sLen + n ≤ 9223372036854775807) (hb : (sLen + n) * i.bytes ≤ 140737488355328) :
    (Builtin.append_ #[t, t] ty #[.slice base sLen sCap, x]).run P w =
      .ok (.slice (some ⟨w.heap.size, 0, none⟩) (sLen + n) (grownCap w (sLen + n) sCap e)) (w.drew.alloc (.cells (old.toArray ++ new.toArray ++ Builtin.zeroCells z.cells (grownCap w (sLen + n) sCap e - (sLen + n))) e)) := by
  obtain ⟨a, c, rfl⟩ := hx
  have hfit := growslice_fits (old := sCap) (need := sLen + n) (bytes := i.bytes) (by omega) hb
  have h63' : ¬ (9223372036854775807 < ((sLen : Int) + (n : Int))) := by omega
  have h48' : ¬ (281474976710656 < Builtin.nextslicecap (sLen + n) sCap * i.bytes) := by omega
  simp [Builtin.append_, underlying_run ht, sizeOf, typeInfo, zeroValue, hi, hz, Builtin.lenOf, hg, h63', h48', Question.forced, hnew, hold, newRow, grownCap]
  congr 2
  apply Array.ext'
  simp [List.append_assoc]

theorem info_of {e : TypeId} {s : Nat} (hs : tySize P e = some s) {z : D} (hz : zeroD P e = some z) : ∃ i v, P.info? e = some i ∧ i.size = s ∧ i.zero = some v ∧ ofVal v = some z := by
  obtain ⟨i, hi, rfl⟩ := tySize_info hs
  unfold zeroD at hz
  rw [hi] at hz
  simp only at hz
  split at hz
  · rename_i v hv
    exact ⟨i, v, hi, rfl, hv, hz⟩
  · cases hz

theorem ofVal_rep {v : Value} {z : D} (h : ofVal v = some z) : Rep w g z v :=
  evalT_of (F := []) (tm := #[]) (x := .const v) (fun t d hd => by cases hd) h

theorem elemOfSlice_spec {t e : TypeId} {s by_ : Nat} (h : elemOfSlice P t = some (e, s, by_)) : P.underlying t = some (.slice e) ∧ tySize P e = some s ∧ ∃ i, P.info? e = some i ∧ i.size = s ∧ i.bytes = by_ := by
  unfold elemOfSlice at h
  split at h
  · rename_i e' hu
    split at h
    · rename_i i hi
      simp only [Option.some.injEq, Prod.mk.injEq] at h
      obtain ⟨rfl, rfl, rfl⟩ := h
      exact ⟨hu, by simp [tySize, hi], i, hi, rfl, rfl⟩
    · cases h
  · cases h

/-- An operation on the abstract heap: the value, the blocks that it reads, what becomes of blocks. 'nx' is the number of a new block. -/
inductive HStep (P : Program) (F : Fr) (H : Hp) (nx : Nat) (o : Oper) : D → List Nat → List (Nat × Option Blk) → Prop where
  | pure {pre : Prop} {d : D} (h : vop P F o.op = some (pre, d)) (hp : pre) : HStep P F H nx o d [] []
  | pickT {c a b : Operand} {t : Bool} {d : D} (ho : o.op = .pick c a b) (hc : F.eval c = some (.bool t)) (ht : t = true) (h : F.eval a = some d) : HStep P F H nx o d [] []
  | pickF {c a b : Operand} {t : Bool} {d : D} (ho : o.op = .pick c a b) (hc : F.eval c = some (.bool t)) (ht : t = false) (h : F.eval b = some d) : HStep P F H nx o d [] []
  | loadS {t : TypeId} {x : Operand} {u : TypeDesc} {cs : List D} {off : Nat} {d : D} (ho : o.op = .load t x) (hx : F.eval x = some (.sptr cs off)) (hu : P.underlying t = some u) (ha : isAggB u = false) (hd : cs[off]? = some d) : HStep P F H nx o d [] []
  | loadSA {t : TypeId} {x : Operand} {u : TypeDesc} {s : Nat} {cs r : List D} {off : Nat} (ho : o.op = .load t x) (hx : F.eval x = some (.sptr cs off)) (hu : P.underlying t = some u) (ha : isAggB u = true) (hs : tySize P t = some s) (hd : takeR cs off s = some r) : HStep P F H nx o (.agg r) [] []
  | alloc {t : TypeId} {z : D} (ho : o.op = .alloc t) (hz : zeroD P t = some z) (hn : z.notTup = true) : HStep P F H nx o (.ptr nx 0) [] [(nx, some (.cells z.cells))]
  | box {t : TypeId} {x : Operand} {d : D} (ho : o.op = .box t x) (hx : F.eval x = some d) (hn : d.notTup = true) : HStep P F H nx o (.ptr nx 0) [] [(nx, some (.cells d.cells))]
  | make {t e : TypeId} {l c : Operand} {k k' : IntKind} {n : Int} {s by_ : Nat} {z : D} (ho : o.op = .makeSlice t l c) (ht : elemOfSlice P t = some (e, s, by_)) (hl : F.eval l = some (.int k n)) (hc : F.eval c = some (.int k' n)) (hz : zeroD P e = some z)
      (hzl : z.cells.length = s) (hzn : z.notTup = true) (hs : 1 ≤ s) (h0 : 0 ≤ n) (hb : n * by_ ≤ 281474976710656) (h63 : n ≤ 9223372036854775807) : HStep P F H nx o (.live nx 0 n.toNat n.toNat s) [] [(nx, some (.cells (repR n.toNat z.cells)))]
  | load {t : TypeId} {x : Operand} {u : TypeDesc} {b off : Nat} {cs : List D} {d : D} (ho : o.op = .load t x) (hx : F.eval x = some (.ptr b off)) (hu : P.underlying t = some u) (ha : isAggB u = false) (hs : (tySize P t).isSome = true) (hb : H[b]? = some (some (.cells cs))) (hd : cs[off]? = some d) : HStep P F H nx o d [b] []
  | loadA {t : TypeId} {x : Operand} {u : TypeDesc} {s b off : Nat} {cs r : List D} (ho : o.op = .load t x) (hx : F.eval x = some (.ptr b off)) (hu : P.underlying t = some u) (ha : isAggB u = true) (hs : tySize P t = some s) (hb : H[b]? = some (some (.cells cs))) (hd : takeR cs off s = some r) : HStep P F H nx o (.agg r) [b] []
  | store {t : TypeId} {x y : Operand} {b off : Nat} {cs r : List D} {d : D} (ho : o.op = .store t x y) (hx : F.eval x = some (.ptr b off)) (hy : F.eval y = some d) (hs : tySize P t = some d.cells.length) (hn : d.notTup = true) (hb : H[b]? = some (some (.cells cs))) (hr : overR cs off d.cells = some r) :
      HStep P F H nx o (.tup []) [b] [(b, some (.cells r))]
  | sliceArr {t e : TypeId} {x : Operand} {n s b off : Nat} {cs : List D} (ho : o.op = .slice t x none none none) (ht : P.underlying t = some (.array n e)) (hs : tySize P e = some s) (hx : F.eval x = some (.ptr b off)) (hb : H[b]? = some (some (.cells cs))) (hn : off + n * s ≤ cs.length) :
      HStep P F H nx o (.live b off n n s) [b] []
  | appendNew {t e : TypeId} {x y : Operand} {s by_ n len : Nat} {d d0 : D} {z : D} {cs cs0 : List D} {rd : List Nat} (ho : o.op = .call { callee := .builtin .append, args := #[x, y], argTypes := #[t, t] }) (ht : elemOfSlice P t = some (e, s, by_)) (hz : zeroD P e = some z) (hzl : z.cells.length = s)
      (hx : F.eval x = some d0) (hd0 : (d0 = .snil ∧ len = 0 ∧ cs0 = []) ∨ (d0 = .snap cs0 len true ∧ cs0.length = len * s)) (hy : F.eval y = some d) (hsrc : Src H s d n cs rd) (hn : 0 < n) (h63 : len + n ≤ 9223372036854775807) (hb : (len + n) * by_ ≤ 140737488355328) :
      HStep P F H nx o (.live nx 0 (len + n) (len + n) s) rd [(nx, some (.cells (cs0 ++ cs)))]
  | appendSame {t e : TypeId} {x y : Operand} {s by_ : Nat} {d d0 : D} {cs : List D} {rd : List Nat} (ho : o.op = .call { callee := .builtin .append, args := #[x, y], argTypes := #[t, t] }) (ht : elemOfSlice P t = some (e, s, by_))
      (hx : F.eval x = some d0) (hd0 : d0 = .snil ∨ ∃ c l t, d0 = .snap c l t) (hy : F.eval y = some d) (hsrc : Src H s d 0 cs rd) : HStep P F H nx o d0 rd []
  | appendF {t e : TypeId} {x y : Operand} {s by_ n len : Nat} {d d0 : D} {z : D} {cs cs0 : List D} {rd : List Nat} (ho : o.op = .call { callee := .builtin .append, args := #[x, y], argTypes := #[t, t] }) (ht : elemOfSlice P t = some (e, s, by_)) (hz : zeroD P e = some z) (hzl : z.cells.length = s)
      (hx : F.eval x = some d0) (hd0 : (d0 = .snil ∧ len = 0 ∧ cs0 = []) ∨ (d0 = .snap cs0 len true ∧ cs0.length = len * s)) (hy : F.eval y = some d) (hsrc : Src H s d n cs rd) (h63 : len + n ≤ 9223372036854775807) (hb : (len + n) * by_ ≤ 140737488355328) :
      HStep P F H nx o (.snap (cs0 ++ cs) (len + n) false) rd []
  | appendMv {t e : TypeId} {x y : Operand} {s by_ n len b off c : Nat} {d : D} {z : D} {cs cs0 : List D} {rd : List Nat} (ho : o.op = .call { callee := .builtin .append, args := #[x, y], argTypes := #[t, t] }) (ht : elemOfSlice P t = some (e, s, by_)) (hz : zeroD P e = some z) (hzl : z.cells.length = s)
      (hx : F.eval x = some (.live b off len c s)) (hb : H[b]? = some (some (.cells cs0))) (hl : off + len * s ≤ cs0.length) (hy : F.eval y = some d) (hsrc : Src H s d n cs rd) (h63 : len + n ≤ 9223372036854775807) (hby : (len + n) * by_ ≤ 140737488355328) :
      HStep P F H nx o (.live nx 0 (len + n) (len + n) s) (b :: rd) [(b, none), (nx, some (.cells ((cs0.drop off).take (len * s) ++ cs)))]
  | appendIn {t e : TypeId} {x y : Operand} {s by_ n len b off c : Nat} {d : D} {cs cs0 r : List D} {rd : List Nat} (ho : o.op = .call { callee := .builtin .append, args := #[x, y], argTypes := #[t, t] }) (ht : elemOfSlice P t = some (e, s, by_))
      (hx : F.eval x = some (.live b off len c s)) (hb : H[b]? = some (some (.cells cs0))) (hy : F.eval y = some d) (hsrc : Src H s d n cs rd) (hc : len + n ≤ c) (hr : overR cs0 (off + len * s) cs = some r) :
      HStep P F H nx o (.live b off (len + n) c s) (b :: rd) [(b, some (.cells r))]
  | copy {t t' e : TypeId} {x y : Operand} {s by_ n m len b off c : Nat} {d : D} {cs cs0 r : List D} {rd : List Nat} (ho : o.op = .call { callee := .builtin .copy, args := #[x, y], argTypes := #[t, t'] }) (ht : elemOfSlice P t = some (e, s, by_))
      (hx : F.eval x = some (.live b off len c s)) (hb : H[b]? = some (some (.cells cs0))) (hy : F.eval y = some d) (hsrc : Src H s d n cs rd) (hm : m = min n len) (hr : overR cs0 off (cs.take (m * s)) = some r) :
      HStep P F H nx o (.int .i64 m) (b :: rd) [(b, some (.cells r))]
  | clear {t e : TypeId} {x : Operand} {s by_ len b off c : Nat} {z : D} {cs0 r : List D} (ho : o.op = .call { callee := .builtin .clear, args := #[x], argTypes := #[t] }) (ht : elemOfSlice P t = some (e, s, by_)) (hz : zeroD P e = some z) (hzl : z.cells.length = s) (hzn : z.notTup = true) (hs1 : 1 ≤ s)
      (hx : F.eval x = some (.live b off len c s)) (hb : H[b]? = some (some (.cells cs0))) (hr : overR cs0 off (repR len z.cells) = some r) :
      HStep P F H nx o (.tup []) [b] [(b, some (.cells r))]
  | clear0 {t : TypeId} {x : Operand} {b off c s : Nat} (ho : o.op = .call { callee := .builtin .clear, args := #[x], argTypes := #[t] }) (ht : (P.underlying t).isSome = true) (hx : F.eval x = some (.live b off 0 c s)) : HStep P F H nx o (.tup []) [] []

/-- What the machine does at such an operation. -/
def Sound (P : Program) (N nx : Nat) (tm : Array Value) (o : Oper) (w : World) (g : Gh) (H : Hp) (d : D) (H' : Hp) : Prop :=
  ∃ v w' g', ((execOp (evalT tm) o).run P w = .ok (.value v) w' ∨ ((execOp (evalT tm) o).run P w = .ok .skip w' ∧ v = undef)) ∧ Did N nx w g H w' g' H' ∧ Rep w' g' d v

theorem Gives.sound {o : Oper} {d : D} (h : Gives P tm o w g d) (hH : HRel w g H) : Sound P N nx tm o w g H d H :=
  let ⟨v, w', g', hr, hg, hrep⟩ := h
  ⟨v, w', g', .inl hr, hg.did hH N, hrep⟩

theorem rep_alloc_cells {cs : List D} {v : Value} {d : D} (hd : d.cells = cs) (hr : Rep w g d v) : RepL w g cs (v.cells.toList.take cs.length) := by
  have h := hr.cells
  rw [hd] at h
  have : v.cells.toList.take cs.length = v.cells.toList := by rw [List.take_of_length_le]; have := h.1; omega
  rw [this]; exact h

theorem sound_alloc {o : Oper} {nx : Nat} (hH : HRel w g H) (hnx : g.ρ nx = none) (hN : N ≤ nx) {t : TypeId} {z : D} (ho : o.op = .alloc t) (hz : zeroD P t = some z) (hn : z.notTup = true) : Sound P N nx tm o w g H (.ptr nx 0) (putAt H nx (.cells z.cells)) := by
  obtain ⟨v, hv, hr⟩ := zeroD_run (P := P) (w := w) (g := g) hz
  refine ⟨.pointer (some ⟨w.heap.size, 0, none⟩), _, _, .inl ?_, did_alloc (c := v.cells) (e := t) hH hnx hN (rep_alloc_cells rfl hr) (hr.cells_one hn), ?_⟩
  · rw [execOp]
    simp only [ho, Instr.alloc, Sem.run_bind, hv, Result.andThen_ok, newVar, newRow, run_newObj, Sem.run_pure]
    rfl
  · exact .ptr (base := 0) (off := 0) Gh.at_same

theorem sound_box {o : Oper} {nx : Nat} (hH : HRel w g H) (hF : FRel w g F tm) (hnx : g.ρ nx = none) (hN : N ≤ nx) {t : TypeId} {x : Operand} {d : D} (ho : o.op = .box t x) (hx : F.eval x = some d) (hn : d.notTup = true) : Sound P N nx tm o w g H (.ptr nx 0) (putAt H nx (.cells d.cells)) := by
  have hr := evalT_of hF hx
  refine ⟨.pointer (some ⟨w.heap.size, 0, none⟩), _, _, .inl ?_, did_alloc (c := (evalT tm x).cells) (e := t) hH hnx hN (rep_alloc_cells rfl hr) (hr.cells_one hn), ?_⟩
  · rw [execOp]
    simp only [ho, Instr.box, Sem.run_bind, newVar, newRow, run_newObj, Result.andThen_ok, Sem.run_pure]
    rfl
  · exact .ptr (base := 0) (off := 0) Gh.at_same

theorem sound_make {o : Oper} {nx : Nat} (hH : HRel w g H) (hF : FRel w g F tm) (hnx : g.ρ nx = none) (hN : N ≤ nx) {t e : TypeId} {l c : Operand} {k k' : IntKind} {n : Int} {s by_ : Nat} {z : D} (ho : o.op = .makeSlice t l c) (ht : elemOfSlice P t = some (e, s, by_)) (hl : F.eval l = some (.int k n)) (hc : F.eval c = some (.int k' n)) (hz : zeroD P e = some z)
      (hzl : z.cells.length = s) (hzn : z.notTup = true) (hs : 1 ≤ s) (h0 : 0 ≤ n) (hb : n * by_ ≤ 281474976710656) (h63 : n ≤ 9223372036854775807) : Sound P N nx tm o w g H (.live nx 0 n.toNat n.toNat s) (putAt H nx (.cells (repR n.toNat z.cells))) := by
  obtain ⟨hu, hsz, i, hi, hi1, hi2⟩ := elemOfSlice_spec ht
  obtain ⟨i', v, hi', _, hv, hov⟩ := info_of hsz hz
  rw [hi] at hi'; cases hi'
  have hr : Rep w g z v := ofVal_rep hov
  have hrun := run_make (P := P) w t e i v hu hi hv k k' n n h0 (by omega) (by rw [hi2, Int.mul_comm]; exact hb) h63
  obtain ⟨hR, hR1⟩ := repR_rep (w := w) (g := g) hr.cells (hr.cells_one hzn) s n.toNat hzl hs
  have hcells : madeCells v.cells (n.toNat * i.size) = (Array.range (n.toNat * s)).map (fun i => v.cells[i % v.cells.size]!) := by rw [hi1]; rfl
  have hlen : (repR n.toNat z.cells).length = n.toNat * s := by have := hR.1; simp at this; omega
  have hc' : RepL w g (repR n.toNat z.cells) ((madeCells v.cells (n.toNat * i.size)).toList.take (repR n.toNat z.cells).length) := by
    rw [hcells, List.take_of_length_le (by simp [hlen])]; exact hR
  refine ⟨.slice (some ⟨w.heap.size, 0, none⟩) n.toNat n.toNat, _, _, .inl ?_, did_alloc (c := madeCells v.cells (n.toNat * i.size)) (e := e) hH hnx hN hc' hR1, ?_⟩
  · rw [execOp]
    simp only [ho, rep_int (evalT_of hF hl), rep_int (evalT_of hF hc), Sem.run_bind, hrun, Result.andThen_ok, Sem.run_pure]
  · refine .live (base := 0) Gh.at_same (.inr rfl) (Nat.le_refl _) (Nat.le_refl _) (.inr ⟨n.toNat * s, ?_, by omega⟩)
    simp only [cellsN, heap_alloc_new w (.cells (madeCells v.cells (n.toNat * i.size)) e)]
    rw [hcells]; simp

theorem sound_store {o : Oper} (hH : HRel w g H) (hF : FRel w g F tm) {t : TypeId} {x y : Operand} {b off : Nat} {cs r : List D} {d : D} (ho : o.op = .store t x y) (hx : F.eval x = some (.ptr b off)) (hy : F.eval y = some d) (hs : tySize P t = some d.cells.length) (hn : d.notTup = true) (hb : H[b]? = some (some (.cells cs))) (hr : overR cs off d.cells = some r) :
    Sound P N nx tm o w g H (.tup []) (H.set b (some (.cells r))) := by
  obtain ⟨k, base, hv, hρ⟩ := rep_ptr (evalT_of hF hx)
  obtain ⟨k', base', arr, e, hρ', hk, hsz, hone, hcell⟩ := hH.blk b cs hb
  rw [hρ] at hρ'
  obtain ⟨rfl, rfl⟩ : k = k' ∧ base = base' := by simpa using hρ'
  have hd := evalT_of hF hy
  have hdc := hd.cells
  have hd1 := hd.cells_one hn
  obtain ⟨o1, o2, o3⟩ := overR_spec cs off d.cells r hr
  have hvl : (evalT tm y).cells.size = d.cells.length := by have := hdc.1; simpa using this
  have hone' : ∀ u ∈ (evalT tm y).cells.toList, u.oneCell' = true := by
    intro u hu
    obtain ⟨i, hi, rfl⟩ := List.getElem_of_mem hu
    have hi' : i < d.cells.length := by have := hdc.1; omega
    have h1 := hdc.2 i d.cells[i] _ (by simp) (List.getElem?_eq_getElem hi)
    have h2 := hd1 d.cells[i] (List.getElem_mem _)
    revert h1 h2
    generalize (evalT tm y).cells.toList[i] = u
    generalize d.cells[i] = dd
    intro h1 h2
    cases h1 <;> first | rfl | (simp [D.one] at h2)
  have hst := run_storeCells_at P k (base + off) e (evalT tm y).cells.toList 0 arr w hk (by simp; omega) hone'
  refine ⟨undef, _, g, .inr ⟨?_, rfl⟩, did_store (c' := (arr.toList.take (base + off + 0) ++ (evalT tm y).cells.toList ++ arr.toList.drop (base + off + 0 + (evalT tm y).cells.toList.length)).toArray) hH hb hρ hk ?_ (by omega) ?_ ?_, .tup rfl (by simp)⟩
  · rw [execOp]
    simp only [ho, hv, Instr.storeAt, Instr.sureAddr, storeVar, Sem.run_bind, Sem.run_pure, Result.andThen_ok, sizeOf_run P w hs]
    rw [if_neg (by simp [hvl])]
    simp only [Result.andThen_ok, hst]
  · simp; omega
  · intro x hx'
    obtain ⟨j, hj, rfl⟩ := List.getElem_of_mem hx'
    have h3 := o3 j
    rw [List.getElem?_eq_getElem hj] at h3
    split at h3
    · exact hd1 _ (List.mem_of_getElem? h3.symm)
    · exact hone _ (List.mem_of_getElem? h3.symm)
  · intro i x hx'
    have h3 := o3 i
    rw [hx'] at h3
    have hi : i < cs.length := by rw [← o1]; exact lt_of_getElem? hx'
    simp only [Nat.add_zero, List.getElem?_toArray]
    split at h3
    · rename_i hc
      have hi' : i - off < (evalT tm y).cells.size := by omega
      refine ⟨(evalT tm y).cells[i - off], ?_, hdc.2 _ x _ h3.symm (by simp [hi'])⟩
      rw [List.append_assoc, List.getElem?_append_right (by simp; omega), List.getElem?_append_left (by simp; omega)]
      simp only [List.length_take, Array.length_toList]
      rw [show base + i - min (base + off) arr.size = i - off by omega]
      simp [hi']
    · rename_i hc
      obtain ⟨v, hv', hrv⟩ := hcell i x h3.symm
      refine ⟨v, ?_, hrv⟩
      rcases Nat.lt_or_ge i off with h | h
      · rw [List.append_assoc, List.getElem?_append_left (by simp; omega), List.getElem?_take, if_pos (by omega)]
        simpa using hv'
      · rw [List.getElem?_append_right (by simp; omega), List.getElem?_drop]
        simp only [List.length_append, List.length_take, Array.length_toList]
        rw [show base + off + (evalT tm y).cells.size + (base + i - (min (base + off) arr.size + (evalT tm y).cells.size)) = base + i by omega]
        simpa using hv'
end
end Go.V

/- The logic V, part 15: append, copy and clear; every heap step is sound. -/
namespace Go.V
section
variable {P : Program} {w w' : World} {g g' : Gh} {H : Hp} {F : Fr} {tm : Array Value} {N nx : Nat} {o : Oper}

theorem write_live (hH : HRel w g H) {b off : Nat} {cs xs r : List D} (hb : H[b]? = some (some (.cells cs))) {k base : Nat} (hρ : g.ρ b = some (k, base)) (hr : overR cs off xs = some r) {vs : List Value} (hvs : RepL w g xs vs) (hd1 : ∀ d ∈ xs, d.one = true) :
    ∃ w', (storeCells ⟨k, base + off, none⟩ vs).run P w = .ok () w' ∧ Did N nx w g H w' g (H.set b (some (.cells r))) := by
  obtain ⟨k', base', arr, e, hρ', hk, hsz, hone, hcell⟩ := hH.blk b cs hb
  rw [hρ] at hρ'
  obtain ⟨rfl, rfl⟩ : k = k' ∧ base = base' := by simpa using hρ'
  obtain ⟨o1, o2, o3⟩ := overR_spec cs off xs r hr
  have hvl : vs.length = xs.length := hvs.1
  have hone' : ∀ u ∈ vs, u.oneCell' = true := by
    intro u hu
    obtain ⟨i, hi, rfl⟩ := List.getElem_of_mem hu
    have hi' : i < xs.length := by omega
    have h1 := hvs.2 i xs[i] _ (by simp) (List.getElem?_eq_getElem hi)
    have h2 := hd1 xs[i] (List.getElem_mem _)
    revert h1 h2
    generalize vs[i] = u
    generalize xs[i] = dd
    intro h1 h2
    cases h1 <;> first | rfl | (simp [D.one] at h2)
  have hst := run_storeCells_at P k (base + off) e vs 0 arr w hk (by omega) hone'
  refine ⟨_, hst, did_store (c' := (arr.toList.take (base + off + 0) ++ vs ++ arr.toList.drop (base + off + 0 + vs.length)).toArray) hH hb hρ hk (by simp; omega) (by omega) ?_ ?_⟩
  · intro x hx'
    obtain ⟨j, hj, rfl⟩ := List.getElem_of_mem hx'
    have h3 := o3 j
    rw [List.getElem?_eq_getElem hj] at h3
    split at h3
    · exact hd1 _ (List.mem_of_getElem? h3.symm)
    · exact hone _ (List.mem_of_getElem? h3.symm)
  · intro i x hx'
    have h3 := o3 i
    rw [hx'] at h3
    have hi : i < cs.length := by rw [← o1]; exact lt_of_getElem? hx'
    simp only [Nat.add_zero, List.getElem?_toArray]
    split at h3
    · rename_i hc
      have hi' : i - off < vs.length := by omega
      refine ⟨vs[i - off], ?_, hvs.2 _ x _ h3.symm (by simp [hi'])⟩
      rw [List.append_assoc, List.getElem?_append_right (by simp; omega), List.getElem?_append_left (by simp; omega)]
      simp only [List.length_take, Array.length_toList]
      rw [show base + i - min (base + off) arr.size = i - off by omega]
      simp [hi']
    · rename_i hc
      obtain ⟨v, hv', hrv⟩ := hcell i x h3.symm
      refine ⟨v, ?_, hrv⟩
      rcases Nat.lt_or_ge i off with h | h
      · rw [List.append_assoc, List.getElem?_append_left (by simp; omega), List.getElem?_take, if_pos (by omega)]
        simpa using hv'
      · rw [List.getElem?_append_right (by simp; omega), List.getElem?_drop]
        simp only [List.length_append, List.length_take, Array.length_toList]
        rw [show base + off + vs.length + (base + i - (min (base + off) arr.size + vs.length)) = base + i by omega]
        simpa using hv'

theorem exec_builtin {b : Builtin} {args : Array Operand} {at_ : Array TypeId} {s : Sem Value} (ho : o.op = .call { callee := .builtin b, args, argTypes := at_ })
    (hs : builtin b at_ o.type (args.map fun | .const _ => true | _ => false) (args.map (evalT tm)) = (do pure (.value (← s)))) {v : Value} {w' : World} (hr : s.run P w = .ok v w') : (execOp (evalT tm) o).run P w = .ok (.value v) w' := by
  rw [execOp]
  simp only [ho, resolve, invoke, Sem.run_bind, Sem.run_pure, Result.andThen_ok]
  refine (congrArg (fun x => Sem.run P x w) hs).trans ?_
  simp only [Sem.run_bind, hr, Result.andThen_ok, Sem.run_pure]

theorem drew_rep (hH : HRel w g H) : Grew w g w.drew g := ⟨rfl, rfl, rfl, Nat.le_refl _, fun _ _ => rfl, fun _ h => h, fun _ h => .inl h, rfl⟩

theorem take_append_rep {cs0 cs : List D} {old new : List Value} {rest : Array Value} (h0 : RepL w g cs0 old) (h1 : RepL w g cs new) :
    RepL w g (cs0 ++ cs) ((old.toArray ++ new.toArray ++ rest).toList.take (cs0 ++ cs).length) := by
  have hl : (cs0 ++ cs).length = (old ++ new).length := by simp [h0.1, h1.1]
  have : (old.toArray ++ new.toArray ++ rest).toList.take (cs0 ++ cs).length = old ++ new := by
    rw [hl]
    have : (old.toArray ++ new.toArray ++ rest).toList = (old ++ new) ++ rest.toList := by simp
    rw [this, List.take_left']
    rfl
  rw [this]
  refine ⟨hl.symm, fun i d v hd hv => ?_⟩
  rw [List.getElem?_append] at hd hv
  rw [h0.1] at hv
  split at hd
  · rename_i hi; rw [if_pos hi] at hv; exact h0.2 i d v hd hv
  · rename_i hi; rw [if_neg hi] at hv; exact h1.2 _ d v hd hv

/-- An append that makes a new row: whatever it is appended to. -/
theorem grow_sound (hH : HRel w g H) (hF : FRel w g F tm) {nx : Nat} (hnx : g.ρ nx = none) (hN : N ≤ nx) {t e : TypeId} {x y : Operand} {s by_ n len cap : Nat} {base : Option Addr} {z : D} {cs0 cs : List D} {old : List Value} {d : D} {rd : List Nat}
    (ho : o.op = .call { callee := .builtin .append, args := #[x, y], argTypes := #[t, t] }) (ht : elemOfSlice P t = some (e, s, by_)) (hz : zeroD P e = some z) (hzl : z.cells.length = s)
    (hx : evalT tm x = .slice base len cap) (hold : (Builtin.firstCells s len (.slice base len cap)).run P w.drew = .ok old.toArray w.drew) (hor : RepL w g cs0 old) (hol : old.length = len * s) (ho1 : ∀ d ∈ cs0, d.one = true)
    (hy : F.eval y = some d) (hsrc : Src H s d n cs rd) (hg : ¬ len + n ≤ cap) (h63 : len + n ≤ 9223372036854775807) (hb : (len + n) * by_ ≤ 140737488355328) :
    Sound P N nx tm o w g H (.live nx 0 (len + n) (len + n) s) (putAt H nx (.cells (cs0 ++ cs))) := by
  obtain ⟨hu, hsz, i, hi, hi1, hi2⟩ := elemOfSlice_spec ht
  obtain ⟨i', v, hi', _, hv, hov⟩ := info_of hsz hz
  rw [hi] at hi'; cases hi'
  have hzr : Rep w g z v := ofVal_rep hov
  have hzc : v.cells.size = s := by have := hzr.cells.1; simp at this; omega
  have gd := drew_rep hH
  have hHd := gd.hrel hH
  obtain ⟨a, c, news, hyv, hnew, hnr, hnl, hn1⟩ := src_run (P := P) hHd hsrc ((evalT_of hF hy).keeps (gd.did (nx := nx) hH N).kp)
  have hrun := append_grow (P := P) (w := w) (ty := o.type) (base := base) (sCap := cap) (old := old) (x := evalT tm y) (new := news) hu hi hv ⟨a, c, hyv⟩ (by rw [hi1]; exact hnew) (by rw [hi1]; exact hold) hg h63 (by rw [hi2]; exact hb)
  have hd := did_alloc (N := N) (nx := nx) (c := old.toArray ++ news.toArray ++ Builtin.zeroCells v.cells (grownCap w (len + n) cap e - (len + n))) (e := e) (cs := cs0 ++ cs) hHd hnx hN
    (take_append_rep (hor.keeps (gd.did (nx := nx) hH N).kp) hnr) (fun x hx => (List.mem_append.1 hx).elim (ho1 x) (hn1 x))
  refine ⟨.slice (some ⟨w.heap.size, 0, none⟩) (len + n) (grownCap w (len + n) cap e), _, _, .inl (exec_builtin ho rfl ?_), (gd.did hH N).trans hd, ?_⟩
  · simp only [List.map_toArray, List.map_cons, List.map_nil, hx]
    exact hrun
  · have hge := grownCap_ge w (len + n) cap e
    refine .live (base := 0) Gh.at_same (.inr rfl) (Nat.le_refl _) hge (.inr ⟨grownCap w (len + n) cap e * s, ?_, by omega⟩)
    have := heap_alloc_new w.drew (.cells (old.toArray ++ news.toArray ++ Builtin.zeroCells v.cells (grownCap w (len + n) cap e - (len + n))) e)
    have hsz' : w.drew.heap.size = w.heap.size := rfl
    rw [hsz'] at this
    simp only [cellsN, this]
    simp only [Array.size_append, List.size_toArray, hol, hnl, size_zeroCells, hzc, Option.some.injEq]
    rw [← Nat.add_mul, ← Nat.add_mul]
    congr 1
    omega

theorem firstCells_live (hH : HRel w g H) {b off len c s : Nat} {cs0 : List D} (hb : H[b]? = some (some (.cells cs0))) (hl : off + len * s ≤ cs0.length) {v : Value} (hr : Rep w g (.live b off len c s) v) :
    ∃ old : List Value, (Builtin.firstCells s len v).run P w = .ok old.toArray w ∧ RepL w g ((cs0.drop off).take (len * s)) old ∧ old.length = len * s ∧ (∀ d ∈ (cs0.drop off).take (len * s), d.one = true) :=
  let ⟨_, _, news, _, h1, h2, h3, h4⟩ := src_run (P := P) hH (.live hb hl) hr
  ⟨news, h1, h2, h3, h4⟩

theorem sound_appendMv (hH : HRel w g H) (hF : FRel w g F tm) {nx : Nat} (hnx : g.ρ nx = none) (hN : N ≤ nx) {t e : TypeId} {x y : Operand} {s by_ n len b off c : Nat} {d : D} {z : D} {cs cs0 : List D} {rd : List Nat} (ho : o.op = .call { callee := .builtin .append, args := #[x, y], argTypes := #[t, t] }) (ht : elemOfSlice P t = some (e, s, by_)) (hz : zeroD P e = some z) (hzl : z.cells.length = s)
      (hx : F.eval x = some (.live b off len c s)) (hb : H[b]? = some (some (.cells cs0))) (hl : off + len * s ≤ cs0.length) (hy : F.eval y = some d) (hsrc : Src H s d n cs rd) (h63 : len + n ≤ 9223372036854775807) (hby : (len + n) * by_ ≤ 140737488355328) :
      Sound P N nx tm o w g H (.live nx 0 (len + n) (len + n) s) (putAt (H.set b none) nx (.cells ((cs0.drop off).take (len * s) ++ cs))) := by
  have gd := drew_rep hH
  have hxr := evalT_of hF hx
  obtain ⟨k, base, xa, cap, hv, hρ, hxx, hlc, hcc, hn⟩ := rep_live hxr
  obtain ⟨hu, hsz, i, hi, hi1, hi2⟩ := elemOfSlice_spec ht
  by_cases hfit : len + n ≤ cap
  · -- within the capacity: the same real block
    obtain ⟨a, c', news, hyv, hnew, hnr, hnl, hn1⟩ := src_run (P := P) hH hsrc (evalT_of hF hy)
    have hrun := append_fit (P := P) (w := w) (ty := o.type) (base := some ⟨k, xa, none⟩) (sLen := len) (sCap := cap) (x := evalT tm y) (new := news) hu hsz ⟨a, c', hyv⟩ hnew hfit
    obtain ⟨k', base', arr, e', hρ', hk, hsz', hone, hcell⟩ := hH.blk b cs0 hb
    rw [hρ] at hρ'
    obtain ⟨rfl, rfl⟩ : k = k' ∧ base = base' := by simpa using hρ'
    by_cases hcap : cap = 0
    · -- nothing in it, nothing comes
      have h0 : len = 0 := by omega
      have h1 : n = 0 := by omega
      subst h0; subst h1; subst hcap
      have hnil : news = [] := List.eq_nil_of_length_eq_zero (by simpa using hnl)
      subst hnil
      have hcs : cs = [] := List.eq_nil_of_length_eq_zero (by have := hnr.1; simpa using this.symm)
      subst hcs
      have hd := did_rename (N := N) (nx := nx) (off := 0) (cs' := []) hH hb hρ hnx hN (by simp) (by simp) (by simp only [cellsN, hk, Option.getD_some]; omega)
      refine ⟨.slice (some ⟨k, xa, none⟩) 0 0, w, _, .inl (exec_builtin ho rfl ?_), by simpa using hd, .live Gh.at_same (.inl rfl) (Nat.le_refl _) (Nat.le_refl _) (.inl rfl)⟩
      simp only [List.map_toArray, List.map_cons, List.map_nil, hv]
      rw [hrun]
      simp [storeCells]
    · obtain rfl := hxx.resolve_left hcap
      obtain ⟨sz, hsz1, hsz2⟩ := hn.resolve_left hcap
      have harr : arr.size = sz := by simpa [cellsN, hk] using hsz1
      have hle : len * s + news.length ≤ cap * s := by rw [hnl, ← Nat.add_mul]; exact Nat.mul_le_mul_right _ hfit
      have hone' : ∀ u ∈ news, u.oneCell' = true := by
        intro u hu'
        obtain ⟨j, hj, rfl⟩ := List.getElem_of_mem hu'
        have hj' : j < cs.length := by have := hnr.1; omega
        have h1 := hnr.2 j cs[j] _ (by simp) (List.getElem?_eq_getElem hj)
        have h2 := hn1 cs[j] (List.getElem_mem _)
        revert h1 h2
        generalize news[j] = u
        generalize cs[j] = dd
        intro h1 h2
        cases h1 <;> first | rfl | (simp [D.one] at h2)
      have hst := run_storeCells_at P k (base + off + len * s) e' news 0 arr w hk (by omega) hone'
      -- the abstract block grown to what is known, then renamed
      let arr' := (arr.toList.take (base + off + len * s + 0) ++ news ++ arr.toList.drop (base + off + len * s + 0 + news.length)).toArray
      have hcsl : cs.length = news.length := hnr.1.symm
      have hd1 := did_store (N := N) (nx := nx) (cs' := cs0.take (off + len * s) ++ cs) (c' := arr') hH hb hρ hk (by simp [arr']; omega) (by simp; omega)
        (fun x hx => (List.mem_append.1 hx).elim (fun h => hone x (List.mem_of_mem_take h)) (hn1 x)) (by
          intro j dd hj
          rw [List.getElem?_append] at hj
          simp only [List.length_take, Nat.min_eq_left hl] at hj
          split at hj
          · rename_i hjl
            rw [List.getElem?_take, if_pos hjl] at hj
            obtain ⟨v, hv', hrv⟩ := hcell j dd hj
            refine ⟨v, ?_, hrv⟩
            simp only [arr', Nat.add_zero, List.getElem?_toArray]
            rw [List.append_assoc, List.getElem?_append_left (by simp; omega), List.getElem?_take, if_pos (by omega)]
            simpa using hv'
          · rename_i hjl
            have hj2 := lt_of_getElem? hj
            have hj3 : j - (off + len * s) < news.length := by omega
            refine ⟨news[j - (off + len * s)], ?_, hnr.2 _ dd _ hj (by simp [hj3])⟩
            simp only [arr', Nat.add_zero, List.getElem?_toArray]
            rw [List.append_assoc, List.getElem?_append_right (by simp; omega), List.getElem?_append_left (by simp; omega)]
            simp only [List.length_take, Array.length_toList]
            rw [show base + j - min (base + off + len * s) arr.size = j - (off + len * s) by omega]
            simp [hj3])
      have hb2 : (H.set b (some (.cells (cs0.take (off + len * s) ++ cs))))[b]? = some (some (.cells (cs0.take (off + len * s) ++ cs))) := List.getElem?_set_self (lt_of_getElem? hb)
      have hd2 := did_rename (N := N) (nx := nx) (off := off) (cs' := (cs0.drop off).take (len * s) ++ cs) hd1.hrel hb2 hρ hnx hN (by
          intro j dd hj
          rw [List.getElem?_append] at hj ⊢
          simp only [List.length_take, List.length_drop] at hj ⊢
          rw [Nat.min_eq_left (by omega)] at hj ⊢
          split at hj
          · rename_i hjl
            rw [if_pos (by omega)]
            rw [List.getElem?_take, if_pos hjl, List.getElem?_drop] at hj
            rw [List.getElem?_take, if_pos (by omega)]
            exact hj
          · rename_i hjl
            rw [if_neg (by omega)]
            rw [show off + j - (off + len * s) = j - len * s by omega]
            exact hj) (by intro _; simp; omega) (by
          simp only [cellsN, setRow_heap w k arr arr' e' _ hk, Option.getD_some]
          simp [arr']; omega)
      rw [List.set_set] at hd2
      refine ⟨.slice (some ⟨k, base + off, none⟩) (len + n) cap, _, _, .inl (exec_builtin ho rfl ?_), hd1.trans hd2, ?_⟩
      · simp only [List.map_toArray, List.map_cons, List.map_nil, hv]
        rw [hrun]
        simp only [add_none, hst, Result.andThen_ok]
        rfl
      · refine .live (base := base + off) Gh.at_same (.inr (by omega)) (Nat.le_refl _) hfit (.inr ⟨sz, ?_, by omega⟩)
        simp only [cellsN, setRow_heap w k arr arr' e' _ hk]
        simp [arr']; omega
  · obtain ⟨old, h1, h2, h3, h4⟩ := firstCells_live (P := P) hH hb hl hxr
    have hHd := gd.hrel hH
    obtain ⟨old', h1', h2', h3', h4'⟩ := firstCells_live (P := P) hHd hb hl (hxr.keeps (gd.did (nx := nx) hH N).kp)
    -- first the append, then the old block is let go
    have hnx' : nx ≠ b := fun e => by subst e; rw [hnx] at hρ; cases hρ
    rw [hv] at h1'
    have kb : Keeps w.drew g w g := ⟨fun _ _ => rfl, fun _ _ h => h, fun _ h => h, fun _ _ h => h⟩
    obtain ⟨v, w', g', hr, hd, hrep⟩ := grow_sound (P := P) (N := N) (nx := nx) hH hF hnx hN ho ht hz hzl hv h1' (h2'.keeps kb) h3' h4' hy hsrc hfit h63 hby
    have hk := did_kill (N := N) (nx := nx) hd.hrel b
    refine ⟨v, w', g', hr, ?_, hrep⟩
    have hcomm : (putAt H nx (.cells ((cs0.drop off).take (len * s) ++ cs))).set b none = putAt (H.set b none) nx (.cells ((cs0.drop off).take (len * s) ++ cs)) := by
      have hbl : b < H.length := lt_of_getElem? hb
      unfold putAt
      simp only [List.length_set]
      split
      · exact List.set_comm _ _ hnx'
      · rw [List.append_assoc, List.set_append_left _ _ hbl, List.append_assoc]
    rw [← hcomm]
    exact hd.trans hk

theorem sound_appendNew (hH : HRel w g H) (hF : FRel w g F tm) {nx : Nat} (hnx : g.ρ nx = none) (hN : N ≤ nx) {t e : TypeId} {x y : Operand} {s by_ n len : Nat} {d d0 : D} {z : D} {cs cs0 : List D} {rd : List Nat} (ho : o.op = .call { callee := .builtin .append, args := #[x, y], argTypes := #[t, t] }) (ht : elemOfSlice P t = some (e, s, by_)) (hz : zeroD P e = some z) (hzl : z.cells.length = s)
      (hx : F.eval x = some d0) (hd0 : (d0 = .snil ∧ len = 0 ∧ cs0 = []) ∨ (d0 = .snap cs0 len true ∧ cs0.length = len * s)) (hy : F.eval y = some d) (hsrc : Src H s d n cs rd) (hn : 0 < n) (h63 : len + n ≤ 9223372036854775807) (hb : (len + n) * by_ ≤ 140737488355328) :
      Sound P N nx tm o w g H (.live nx 0 (len + n) (len + n) s) (putAt H nx (.cells (cs0 ++ cs))) := by
  have hxr := evalT_of hF hx
  have gd := drew_rep hH
  have hHd := gd.hrel hH
  have kb : Keeps w.drew g w g := ⟨fun _ _ => rfl, fun _ _ h => h, fun _ h => h, fun _ _ h => h⟩
  rcases hd0 with ⟨rfl, rfl, rfl⟩ | ⟨rfl, hl⟩
  · have hv : evalT tm x = .slice none 0 0 := by
      generalize evalT tm x = v at hxr
      cases hxr; rfl
    exact grow_sound (old := []) hH hF hnx hN ho ht hz hzl hv (by simp [Builtin.firstCells]) ⟨rfl, by simp⟩ (by simp) (by simp) hy hsrc (by omega) h63 hb
  · obtain ⟨a, k, base, cap, f, hv, ha, hS, h1, hle, htt, hc, hr⟩ := rep_snap hxr
    obtain rfl := htt rfl
    obtain ⟨_, _, old, he, h1', h2', h3', h4'⟩ := src_run (P := P) hHd (Src.snap (t := true) hl) (hxr.keeps (gd.did (nx := nx) hH N).kp)
    rw [hv] at he h1'
    exact grow_sound hH hF hnx hN ho ht hz hzl hv h1' (h2'.keeps kb) h3' h4' hy hsrc (by omega) h63 hb

theorem sound_appendSame (hH : HRel w g H) (hF : FRel w g F tm) {t e : TypeId} {x y : Operand} {s by_ : Nat} {d d0 : D} {cs : List D} {rd : List Nat} (ho : o.op = .call { callee := .builtin .append, args := #[x, y], argTypes := #[t, t] }) (ht : elemOfSlice P t = some (e, s, by_))
      (hx : F.eval x = some d0) (hd0 : d0 = .snil ∨ ∃ c l t, d0 = .snap c l t) (hy : F.eval y = some d) (hsrc : Src H s d 0 cs rd) : Sound P N nx tm o w g H d0 H := by
  have hxr := evalT_of hF hx
  obtain ⟨hu, hsz, _⟩ := elemOfSlice_spec ht
  obtain ⟨a, c', news, hyv, hnew, hnr, hnl, _⟩ := src_run (P := P) hH hsrc (evalT_of hF hy)
  have hnil : news = [] := List.eq_nil_of_length_eq_zero (by simpa using hnl)
  subst hnil
  obtain ⟨base, len, cap, hv, hle⟩ : ∃ base len cap, evalT tm x = .slice base len cap ∧ len ≤ cap := by
    rcases hd0 with rfl | ⟨c, l, t, rfl⟩
    · generalize evalT tm x = v at hxr
      cases hxr; exact ⟨_, _, _, rfl, Nat.le_refl _⟩
    · obtain ⟨a, k, base, cap, f, hv, _, _, _, hle, _⟩ := rep_snap hxr
      exact ⟨_, _, _, hv, hle⟩
  have hrun := append_fit (P := P) (w := w) (ty := o.type) (base := base) (sLen := len) (sCap := cap) (x := evalT tm y) (new := []) hu hsz ⟨a, c', hyv⟩ hnew hle
  refine ⟨.slice base len cap, w, g, .inl (exec_builtin ho rfl ?_), (Grew.refl w g).did hH N, hv ▸ hxr⟩
  simp only [List.map_toArray, List.map_cons, List.map_nil, hv]
  rw [hrun]
  cases base <;> simp [storeCells]

theorem rep_of_take {cs : List D} {A : Array Value} {k : Nat} {e : TypeId} {fr : Nat × Nat} (hw : w.heap[k]? = some (.cells A e fr)) (hA : RepL w g cs (A.toList.take cs.length)) :
    (∀ i : Nat, i < cs.length → w.cell? ⟨k, 0 + i, none⟩ = some ((A[i]?).getD default)) ∧ ∀ (i : Nat) (d : D), cs[i]? = some d → Rep w g d ((A[i]?).getD default) := by
  have hl : cs.length ≤ A.size := by have := hA.1; simp at this; omega
  constructor
  · intro i hi
    have : i < A.size := by omega
    simp [World.cell?, hw, this]
  · intro i d hd
    have hi := lt_of_getElem? hd
    have : i < A.size := by omega
    exact hA.2 i d _ hd (by rw [List.getElem?_take, if_pos hi]; simp [this])

theorem grow_gives (hH : HRel w g H) (hF : FRel w g F tm) {t e : TypeId} {x y : Operand} {s by_ n len cap : Nat} {base : Option Addr} {z : D} {cs0 cs : List D} {old : List Value} {d : D} {rd : List Nat}
    (ho : o.op = .call { callee := .builtin .append, args := #[x, y], argTypes := #[t, t] }) (ht : elemOfSlice P t = some (e, s, by_)) (hz : zeroD P e = some z) (hzl : z.cells.length = s)
    (hx : evalT tm x = .slice base len cap) (hold : (Builtin.firstCells s len (.slice base len cap)).run P w.drew = .ok old.toArray w.drew) (hor : RepL w g cs0 old) (hol : old.length = len * s) (ho1 : ∀ d ∈ cs0, d.one = true)
    (hy : F.eval y = some d) (hsrc : Src H s d n cs rd) (hg : ¬ len + n ≤ cap) (h63 : len + n ≤ 9223372036854775807) (hb : (len + n) * by_ ≤ 140737488355328) :
    Gives P tm o w g (.snap (cs0 ++ cs) (len + n) false) := by
  obtain ⟨hu, hsz, i, hi, hi1, hi2⟩ := elemOfSlice_spec ht
  obtain ⟨i', v, hi', _, hv, hov⟩ := info_of hsz hz
  rw [hi] at hi'; cases hi'
  have gd := drew_rep hH
  have hHd := gd.hrel hH
  have kd : Keeps w g w.drew g := ⟨fun _ _ => rfl, fun _ _ h => h, fun _ h => h, fun _ _ h => h⟩
  obtain ⟨a, c, news, hyv, hnew, hnr, hnl, hn1⟩ := src_run (P := P) hHd hsrc ((evalT_of hF hy).keeps kd)
  have hrun := append_grow (P := P) (w := w) (ty := o.type) (base := base) (sCap := cap) (old := old) (x := evalT tm y) (new := news) hu hi hv ⟨a, c, hyv⟩ (by rw [hi1]; exact hnew) (by rw [hi1]; exact hold) hg h63 (by rw [hi2]; exact hb)
  have hA := Grew.alloc w.drew g (old.toArray ++ news.toArray ++ Builtin.zeroCells v.cells (grownCap w (len + n) cap e - (len + n))) e
  have kp := (hA.ev (H := H) H.length).keeps hHd (Nat.le_refl _)
  refine ⟨.slice (some ⟨w.heap.size, 0, none⟩) (len + n) (grownCap w (len + n) cap e), _, _, exec_builtin ho rfl ?_, ⟨hA.os, hA.tape, hA.output, hA.size, hA.keep, hA.s1, hA.s2, hA.ρ⟩, ?_⟩
  · simp only [List.map_toArray, List.map_cons, List.map_nil, hx]
    exact hrun
  · have hge := grownCap_ge w (len + n) cap e
    have hr := rep_of_take (heap_alloc_new w.drew (.cells (old.toArray ++ news.toArray ++ Builtin.zeroCells v.cells (grownCap w (len + n) cap e - (len + n))) e)) ((take_append_rep (rest := Builtin.zeroCells v.cells (grownCap w (len + n) cap e - (len + n))) (hor.keeps kd) hnr).keeps kp)
    exact .snap _ (fun _ => .inr rfl) (fun x hx => (List.mem_append.1 hx).elim (ho1 x) (hn1 x)) hge (fun h => by cases h) hr.1 hr.2

theorem sound_appendF (hH : HRel w g H) (hF : FRel w g F tm) {t e : TypeId} {x y : Operand} {s by_ n len : Nat} {d d0 : D} {z : D} {cs cs0 : List D} {rd : List Nat} (ho : o.op = .call { callee := .builtin .append, args := #[x, y], argTypes := #[t, t] }) (ht : elemOfSlice P t = some (e, s, by_)) (hz : zeroD P e = some z) (hzl : z.cells.length = s)
      (hx : F.eval x = some d0) (hd0 : (d0 = .snil ∧ len = 0 ∧ cs0 = []) ∨ (d0 = .snap cs0 len true ∧ cs0.length = len * s)) (hy : F.eval y = some d) (hsrc : Src H s d n cs rd) (h63 : len + n ≤ 9223372036854775807) (hb : (len + n) * by_ ≤ 140737488355328) :
      Sound P N nx tm o w g H (.snap (cs0 ++ cs) (len + n) false) H := by
  have hxr := evalT_of hF hx
  by_cases hn : n = 0
  · subst hn
    have hcs : cs = [] := by
      obtain ⟨_, _, news, _, _, h2, h3, _⟩ := src_run (P := P) hH hsrc (evalT_of hF hy)
      have := h2.1
      exact List.eq_nil_of_length_eq_zero (by rw [← this, h3]; omega)
    subst hcs
    obtain ⟨v, w', g', hr, hdid, hrep⟩ := sound_appendSame (N := N) (nx := nx) hH hF ho ht hx (hd0.imp (fun h => h.1) fun h => ⟨_, _, _, h.1⟩) hy hsrc
    refine ⟨v, w', g', hr, hdid, ?_⟩
    rw [List.append_nil, Nat.add_zero]
    rcases hd0 with ⟨rfl, rfl, rfl⟩ | ⟨rfl, _⟩
    · exact hrep.wk (.snil _)
    · exact hrep.wk (.snap (Nat.le_refl _) (fun h => by cases h) (fun i x y hx hy => by rw [hx] at hy; cases hy; exact .refl _))
  · have gd := drew_rep hH
    have hHd := gd.hrel hH
    have kb : Keeps w.drew g w g := ⟨fun _ _ => rfl, fun _ _ h => h, fun _ h => h, fun _ _ h => h⟩
    rcases hd0 with ⟨rfl, rfl, rfl⟩ | ⟨rfl, hl⟩
    · have hv : evalT tm x = .slice none 0 0 := by
        generalize evalT tm x = v at hxr
        cases hxr; rfl
      exact (grow_gives (old := []) hH hF ho ht hz hzl hv (by simp [Builtin.firstCells]) ⟨rfl, by simp⟩ (by simp) (by simp) hy hsrc (by omega) h63 hb).sound hH
    · obtain ⟨a, k, base, cap, f, hv, ha, hS, h1, hle, htt, hc, hr⟩ := rep_snap hxr
      obtain rfl := htt rfl
      obtain ⟨_, _, old, he, h1', h2', h3', h4'⟩ := src_run (P := P) hHd (Src.snap (t := true) hl) (hxr.keeps (gd.did (nx := nx) hH N).kp)
      rw [hv] at he h1'
      exact (grow_gives hH hF ho ht hz hzl hv h1' (h2'.keeps kb) h3' h4' hy hsrc (by omega) h63 hb).sound hH

theorem sound_appendIn (hH : HRel w g H) (hF : FRel w g F tm) {t e : TypeId} {x y : Operand} {s by_ n len b off c : Nat} {d : D} {cs cs0 r : List D} {rd : List Nat} (ho : o.op = .call { callee := .builtin .append, args := #[x, y], argTypes := #[t, t] }) (ht : elemOfSlice P t = some (e, s, by_))
      (hx : F.eval x = some (.live b off len c s)) (hb : H[b]? = some (some (.cells cs0))) (hy : F.eval y = some d) (hsrc : Src H s d n cs rd) (hc : len + n ≤ c) (hr : overR cs0 (off + len * s) cs = some r) :
      Sound P N nx tm o w g H (.live b off (len + n) c s) (H.set b (some (.cells r))) := by
  obtain ⟨k, base, xa, cap, hv, hρ, hxx, hlc, hcc, hn⟩ := rep_live (evalT_of hF hx)
  obtain ⟨hu, hsz, _⟩ := elemOfSlice_spec ht
  obtain ⟨a, c', news, hyv, hnew, hnr, hnl, hn1⟩ := src_run (P := P) hH hsrc (evalT_of hF hy)
  have hrun := append_fit (P := P) (w := w) (ty := o.type) (base := some ⟨k, xa, none⟩) (sLen := len) (sCap := cap) (x := evalT tm y) (new := news) hu hsz ⟨a, c', hyv⟩ hnew (by omega)
  by_cases hcap : cap = 0
  · have h0 : len = 0 := by omega
    have h1 : n = 0 := by omega
    have h2 : c = 0 := by omega
    subst h0; subst h1; subst hcap; subst h2
    have hnil : news = [] := List.eq_nil_of_length_eq_zero (by simpa using hnl)
    subst hnil
    have hcs : cs = [] := List.eq_nil_of_length_eq_zero (by have := hnr.1; simpa using this.symm)
    subst hcs
    obtain ⟨w', hst, hd⟩ := write_live (P := P) (N := N) (nx := nx) hH hb hρ hr hnr (by simp)
    have hw : w' = w := by
      simp only [storeCells, Sem.run_pure, Result.ok.injEq, true_and] at hst
      exact hst.symm
    subst hw
    refine ⟨.slice (some ⟨k, xa, none⟩) 0 0, w', _, .inl (exec_builtin ho rfl ?_), hd, .live hρ (.inl rfl) (Nat.le_refl _) (Nat.le_refl _) (.inl rfl)⟩
    simp only [List.map_toArray, List.map_cons, List.map_nil, hv]
    rw [hrun]
    simp [storeCells]
  · obtain rfl := hxx.resolve_left hcap
    obtain ⟨w', hst, hd⟩ := write_live (P := P) (N := N) (nx := nx) hH hb hρ hr hnr hn1
    refine ⟨.slice (some ⟨k, base + off, none⟩) (len + n) cap, w', _, .inl (exec_builtin ho rfl ?_), hd, ?_⟩
    · simp only [List.map_toArray, List.map_cons, List.map_nil, hv]
      rw [hrun]
      simp only [add_none]
      rw [Nat.add_assoc, hst]
      rfl
    · obtain ⟨sz, h1, h2⟩ := hn.resolve_left hcap
      exact .live hρ (.inr rfl) hc hcc (.inr ⟨sz, hd.kp.shape _ _ h1, h2⟩)

theorem sound_copy (hH : HRel w g H) (hF : FRel w g F tm) {t t' e : TypeId} {x y : Operand} {s by_ n m len b off c : Nat} {d : D} {cs cs0 r : List D} {rd : List Nat} (ho : o.op = .call { callee := .builtin .copy, args := #[x, y], argTypes := #[t, t'] }) (ht : elemOfSlice P t = some (e, s, by_))
      (hx : F.eval x = some (.live b off len c s)) (hb : H[b]? = some (some (.cells cs0))) (hy : F.eval y = some d) (hsrc : Src H s d n cs rd) (hm : m = min n len) (hr : overR cs0 off (cs.take (m * s)) = some r) :
      Sound P N nx tm o w g H (.int .i64 m) (H.set b (some (.cells r))) := by
  obtain ⟨k, base, xa, cap, hv, hρ, hxx, hlc, hcc, hn⟩ := rep_live (evalT_of hF hx)
  obtain ⟨hu, hsz, _⟩ := elemOfSlice_spec ht
  have hmn : m ≤ n := by omega
  have hcs : cs.length = n * s := by
    obtain ⟨a, c', news, hyv, hnew, hnr, hnl, hn1⟩ := src_run (P := P) hH hsrc (evalT_of hF hy)
    have := hnr.1; omega
  -- the source, cut at what is copied
  obtain ⟨a, c', news, hyv, hnew, hnr, hnl, hn1⟩ : ∃ (a : Option Addr) (cap : Nat) (news : List Value), evalT tm y = .slice a n cap ∧ (Builtin.firstCells s m (evalT tm y)).run P w = .ok news.toArray w ∧ RepL w g (cs.take (m * s)) news ∧ news.length = m * s ∧ (∀ d ∈ cs.take (m * s), d.one = true) := by
    have hms : m * s ≤ n * s := Nat.mul_le_mul_right _ hmn
    cases hsrc with
    | snil =>
      have hyr := evalT_of hF hy
      generalize evalT tm y = v at hyr
      cases hyr
      have : m = 0 := by omega
      subst this
      exact ⟨none, 0, [], rfl, by simp [Builtin.firstCells], ⟨by simp, by simp⟩, by simp, by simp⟩
    | snap hl =>
      obtain ⟨a2, k2, base2, cap2, f, he, ha2, hS, h1, hle, htt, hc2, hr2⟩ := rep_snap (evalT_of hF hy)
      rcases ha2 with rfl | ⟨rfl, rfl, rfl⟩
      rotate_left
      · have : m = 0 := by omega
        subst this
        exact ⟨a2, 0, [], he, by rw [he]; cases a2 <;> simp [Builtin.firstCells, loadCells, loadCellsFrom], ⟨by simp, by simp⟩, by simp, by simp⟩
      have hrep : Rep w g (.snap (cs.take (m * s)) m false) (.slice (some ⟨k2, base2, none⟩) m cap2) :=
        .snap f (fun h => hS (fun e => h (by rw [e]; exact List.take_nil))) (fun d hd => h1 d (List.mem_of_mem_take hd)) (by omega) (by simp) (fun i hi => hc2 i (by simp at hi; omega)) (fun i d hd => hr2 i d (by
          rw [List.getElem?_take] at hd
          split at hd
          · exact hd
          · cases hd))
      obtain ⟨_, _, news, _, q1, q2, q3, q4⟩ := src_run (P := P) hH (Src.snap (H := H) (s := s) (n := m) (t := false) (by simp; omega)) hrep
      exact ⟨_, _, news, he, by rw [he]; exact q1, q2, q3, q4⟩
    | @live b2 off2 _ c2 cs2 hb2 h2 =>
      obtain ⟨k2, base2, xa2, cap2, he, hρ2, hxx2, hlc2, hcc2, hn2⟩ := rep_live (evalT_of hF hy)
      have hrep : Rep w g (.live b2 off2 m c2 s) (.slice (some ⟨k2, xa2, none⟩) m cap2) := .live hρ2 hxx2 (by omega) hcc2 hn2
      obtain ⟨_, _, news, _, q1, q2, q3, q4⟩ := src_run (P := P) hH (Src.live (s := s) (n := m) hb2 (by omega)) hrep
      have htk : ((cs2.drop off2).take (n * s)).take (m * s) = (cs2.drop off2).take (m * s) := by rw [List.take_take, Nat.min_eq_left hms]
      rw [htk]
      exact ⟨_, _, news, he, by rw [he]; exact q1, q2, q3, q4⟩
  obtain ⟨w', hst, hd⟩ := write_live (P := P) (N := N) (nx := nx) hH hb hρ hr hnr hn1
  refine ⟨.int .i64 m, w', g, .inl (exec_builtin ho rfl ?_), hd, .int _ _⟩
  simp only [List.map_toArray, List.map_cons, List.map_nil, hv]
  rw [hyv] at hnew ⊢
  have hmin : Nat.min n len = m := hm.symm
  simp only [Builtin.copy_, List.getElem?_toArray, List.getElem?_cons_zero, List.getElem?_cons_succ, Sem.run_bind, underlying_run hu, Result.andThen_ok, Builtin.lenOf, Sem.run_pure, hmin, sizeOf_run P w hsz, hnew]
  by_cases hcap : cap = 0
  · have h0 : m = 0 := by omega
    subst h0
    have hnil : news = [] := List.eq_nil_of_length_eq_zero (by simpa using hnl)
    subst hnil
    simp only [storeCells, Sem.run_pure, Result.ok.injEq, true_and] at hst
    subst hst
    simp [storeCells, goInt]
  · obtain rfl := hxx.resolve_left hcap
    simp [hst, goInt]

theorem sound_clear (hH : HRel w g H) (hF : FRel w g F tm) {t e : TypeId} {x : Operand} {s by_ len b off c : Nat} {z : D} {cs0 r : List D} (ho : o.op = .call { callee := .builtin .clear, args := #[x], argTypes := #[t] }) (ht : elemOfSlice P t = some (e, s, by_)) (hz : zeroD P e = some z) (hzl : z.cells.length = s) (hzn : z.notTup = true) (hs1 : 1 ≤ s)
      (hx : F.eval x = some (.live b off len c s)) (hb : H[b]? = some (some (.cells cs0))) (hr : overR cs0 off (repR len z.cells) = some r) :
      Sound P N nx tm o w g H (.tup []) (H.set b (some (.cells r))) := by
  obtain ⟨k, base, xa, cap, hv, hρ, hxx, hlc, hcc, hn⟩ := rep_live (evalT_of hF hx)
  obtain ⟨hu, hsz, _⟩ := elemOfSlice_spec ht
  obtain ⟨v, hzv, hzr⟩ := zeroD_run (P := P) (w := w) (g := g) hz
  obtain ⟨hR, hR1⟩ := repR_rep (w := w) (g := g) hzr.cells (hzr.cells_one hzn) s len hzl hs1
  have hzc : v.cells.size = s := by have := hzr.cells.1; simp at this; omega
  obtain ⟨w', hst, hd⟩ := write_live (P := P) (N := N) (nx := nx) hH hb hρ hr hR hR1
  have hcells : (Builtin.zeroCells v.cells len).toList = ((Array.range (len * s)).map (fun i => v.cells[i % v.cells.size]!)).toList := by simp only [Builtin.zeroCells, hzc]
  refine ⟨.tuple #[], w', g, .inl (exec_builtin ho rfl ?_), hd, .tup rfl (by simp)⟩
  simp only [List.map_toArray, List.map_cons, List.map_nil, hv]
  by_cases hl : len = 0
  · subst hl
    have : ((Array.range (0 * s)).map (fun i => v.cells[i % v.cells.size]!)).toList = [] := by simp
    rw [this] at hst
    simp only [storeCells, Sem.run_pure, Result.ok.injEq, true_and] at hst
    subst hst
    simp only [Builtin.clear_, List.getElem?_toArray, List.getElem?_cons_zero, Sem.run_bind, underlying_run hu, Result.andThen_ok]
    simp
  · have hcap : cap ≠ 0 := by omega
    obtain rfl := hxx.resolve_left hcap
    obtain ⟨len', rfl⟩ : ∃ l, len = l + 1 := ⟨len - 1, by omega⟩
    simp only [Builtin.clear_, List.getElem?_toArray, List.getElem?_cons_zero, Sem.run_bind, underlying_run hu, Result.andThen_ok, hzv, hcells, hst, Sem.run_pure]

/-- EVERY HEAP STEP IS WHAT THE MACHINE DOES. -/
theorem HStep.sound {nx : Nat} {d : D} {rd : List Nat} {wr : List (Nat × Option Blk)} (h : HStep P F H nx o d rd wr) (hH : HRel w g H) (hF : FRel w g F tm) (hnx : g.ρ nx = none) (hN : N ≤ nx) : Sound P N nx tm o w g H d (applyW H wr) := by
  cases h with
  | pure h hp => exact (vop_gives hH hF h hp).sound hH
  | pickT ho hc ht h =>
    subst ht
    exact (gives_pick (t := true) ho hF hc h).sound hH
  | pickF ho hc ht h =>
    subst ht
    exact (gives_pick (t := false) ho hF hc h).sound hH
  | loadS ho hx hu ha hd =>
    obtain ⟨k, base, f, hv, hS, h1, hc, hr⟩ := rep_sptr (evalT_of hF hx)
    refine Gives.sound (.same (v := f _) ?_ (hr _ _ hd)) hH
    rw [execOp]
    simp only [ho, hv, Instr.loadAt, Instr.sureAddr, Sem.run_bind, Sem.run_pure, Result.andThen_ok, loadVar_one P w hu ha (hc _ (lt_of_getElem? hd))]
  | @loadSA t x u s cs r off ho hx hu ha hs hd =>
    obtain ⟨k, base, f, hv, hS, h1, hc, hr⟩ := rep_sptr (evalT_of hF hx)
    obtain ⟨hl, hi⟩ := takeR_spec cs off s r hd
    refine Gives.sound (.same (v := .agg ((List.range s).map fun i => f (off + i)).toArray) ?_ (.agg (by simp [hl]) (fun d hd => ?_) ?_)) hH
    · rw [execOp]
      simp only [ho, hv, Instr.loadAt, Instr.sureAddr, Sem.run_bind, Sem.run_pure, Result.andThen_ok]
      rw [loadVar_agg P w hu ha hs ((List.range s).map fun i => f (off + i)) (by simp) ?_]
      · rfl
      · intro j v hj
        have hj' : j < s := by have := lt_of_getElem? hj; simpa using this
        simp only [List.getElem?_map, List.getElem?_range hj', Option.map_some, Option.some.injEq] at hj
        subst hj
        obtain ⟨d, hd, _⟩ := hi j hj'
        rw [Nat.add_assoc]
        exact hc (off + j) (lt_of_getElem? hd)
    · obtain ⟨i, hi', rfl⟩ := List.getElem_of_mem hd
      obtain ⟨d, h2, h3⟩ := hi i (by omega)
      have : r[i] = d := by rw [List.getElem?_eq_getElem hi'] at h3; simpa using h3
      rw [this]
      exact h1 d (List.mem_of_getElem? h2)
    · intro i d v hd hv'
      have his : i < s := by rw [← hl]; exact lt_of_getElem? hd
      obtain ⟨d', h2, h3⟩ := hi i his
      rw [hd] at h3
      cases h3
      simp only [List.getElem?_toArray, List.getElem?_map, List.getElem?_range his, Option.map_some, Option.some.injEq] at hv'
      subst hv'
      exact hr (off + i) d h2
  | alloc ho hz hn => exact sound_alloc hH hnx hN ho hz hn
  | box ho hx hn => exact sound_box hH hF hnx hN ho hx hn
  | make ho ht hl hc hz hzl hzn hs h0 hb h63 => exact sound_make hH hF hnx hN ho ht hl hc hz hzl hzn hs h0 hb h63
  | load ho hx hu ha hs hb hd =>
    obtain ⟨k, base, hv, hρ⟩ := rep_ptr (evalT_of hF hx)
    obtain ⟨s, hs'⟩ := Option.isSome_iff_exists.1 hs
    obtain ⟨v, hl, hr⟩ := (load_live (P := P) hH hb hρ hu hs').2 ha _ hd
    refine Gives.sound (.same (v := v) ?_ hr) hH
    rw [execOp]
    simp only [ho, hv, Instr.loadAt, Instr.sureAddr, Sem.run_bind, Sem.run_pure, Result.andThen_ok, hl]
  | loadA ho hx hu ha hs hb hd =>
    obtain ⟨k, base, hv, hρ⟩ := rep_ptr (evalT_of hF hx)
    obtain ⟨v, hl, hr⟩ := (load_live (P := P) hH hb hρ hu hs).1 ha _ hd
    refine Gives.sound (.same (v := v) ?_ hr) hH
    rw [execOp]
    simp only [ho, hv, Instr.loadAt, Instr.sureAddr, Sem.run_bind, Sem.run_pure, Result.andThen_ok, hl]
  | store ho hx hy hs hn hb hr =>
    have hlt := lt_of_getElem? hb
    simp only [applyW, putAt, hlt, if_true]
    exact sound_store hH hF ho hx hy hs hn hb hr
  | @sliceArr t e x n s b off cs ho ht hs hx hb hn =>
    obtain ⟨k, base, hv, hρ⟩ := rep_ptr (evalT_of hF hx)
    obtain ⟨k', base', arr, e', hρ', hk, hsz, hone, hcell⟩ := hH.blk b cs hb
    rw [hρ] at hρ'
    obtain ⟨rfl, rfl⟩ : k = k' ∧ base = base' := by simpa using hρ'
    refine Gives.sound (.same (v := .slice (some ⟨k, base + off, none⟩) n n) ?_ (.live hρ (.inr rfl) (Nat.le_refl _) (Nat.le_refl _) (.inr ⟨arr.size, by simp [cellsN, hk], by omega⟩))) hH
    rw [execOp]
    simp only [ho, Option.map_none, Instr.sliceAt, Sem.run_bind, underlying_run ht, Result.andThen_ok, hv, Instr.sureAddr, Sem.run_pure, Instr.sliceBounds, sizeOf_run P w hs]
    by_cases hn : n = 0
    · subst hn; simp
    · simp [hn, add_none]
  | appendNew ho ht hz hzl hx hd0 hy hsrc hn h63 hb => exact sound_appendNew hH hF hnx hN ho ht hz hzl hx hd0 hy hsrc hn h63 hb
  | appendF ho ht hz hzl hx hd0 hy hsrc h63 hb => exact sound_appendF hH hF ho ht hz hzl hx hd0 hy hsrc h63 hb
  | appendSame ho ht hx hd0 hy hsrc => exact sound_appendSame hH hF ho ht hx hd0 hy hsrc
  | appendMv ho ht hz hzl hx hb hl hy hsrc h63 hby => exact sound_appendMv hH hF hnx hN ho ht hz hzl hx hb hl hy hsrc h63 hby
  | appendIn ho ht hx hb hy hsrc hc hr =>
    have hlt := lt_of_getElem? hb
    simp only [applyW, putAt, hlt, if_true]
    exact sound_appendIn hH hF ho ht hx hb hy hsrc hc hr
  | copy ho ht hx hb hy hsrc hm hr =>
    have hlt := lt_of_getElem? hb
    simp only [applyW, putAt, hlt, if_true]
    exact sound_copy hH hF ho ht hx hb hy hsrc hm hr
  | clear ho ht hz hzl hzn hs1 hx hb hr =>
    have hlt := lt_of_getElem? hb
    simp only [applyW, putAt, hlt, if_true]
    exact sound_clear hH hF ho ht hz hzl hzn hs1 hx hb hr
  | clear0 ho ht hx =>
    obtain ⟨k, base, xa, cap, hv, _⟩ := rep_live (evalT_of hF hx)
    obtain ⟨u, hu⟩ := Option.isSome_iff_exists.1 ht
    refine Gives.sound (.same (v := .tuple #[]) (exec_builtin ho rfl ?_) (.tup rfl (by simp))) hH
    simp only [List.map_toArray, List.map_cons, List.map_nil, hv]
    simp only [Builtin.clear_, List.getElem?_toArray, List.getElem?_cons_zero, Sem.run_bind, underlying_run hu, Result.andThen_ok]
    cases u <;> simp
end
end Go.V

/- The logic V, part 16: regions in the order of the text; calls. -/
namespace Go.V

def putF (F : Fr) : Option Nat → D → Fr
  | some t, d => (t, d) :: F
  | none, _ => F

/-- Is the operation carried out? -/
def Wanted (all : List Oper) (F : Fr) (o : Oper) (v : Bool) : Prop :=
  (o.guard = none ∧ v = true) ∨ (∃ j want oj t b, o.guard = some (j, want) ∧ all[j]? = some oj ∧ oj.dst = some t ∧ F.get t = some (.bool b) ∧ (b == want) = v) ∨
  (v = false ∧ ∃ j want oj t ds, o.guard = some (j, want) ∧ all[j]? = some oj ∧ oj.dst = some t ∧ F.get t = some (.tup ds))

section
variable {P : Program} {w w' : World} {g g' : Gh} {H H' : Hp} {F F' : Fr} {tm : Array Value} {n N : Nat} {o : Oper} {all : Array Oper}

theorem Wanted.run {v : Bool} (h : Wanted all.toList F o v) (hF : FRel w g F tm) : Region.wanted o (yielded all tm) = v := by
  rcases h with ⟨hg, rfl⟩ | ⟨j, want, oj, t, b, hg, ho, ht, hb, hv⟩ | ⟨rfl, j, want, oj, t, ds, hg, ho, ht, hb⟩
  · simp [Region.wanted, hg]
  · obtain ⟨x, hx, hr⟩ := hF t _ hb
    obtain rfl := rep_bool hr
    have ho' : all[j]? = some oj := by simpa using ho
    simp only [Region.wanted, hg, yielded, ho', Option.bind_some, ht, hx]
    rw [← hv]
    cases b <;> cases want <;> rfl
  · obtain ⟨x, hx, hr⟩ := hF t _ hb
    have ho' : all[j]? = some oj := by simpa using ho
    have hy : yielded all tm j = none := by
      simp only [yielded, ho', Option.bind_some, ht, hx]
      cases hr; rfl
    simp only [Region.wanted, hg, hy]
    rfl

def dstOk (n : Nat) (o : Oper) : Prop := ∀ t, o.dst = some t → t < n

theorem put_rel (hF : FRel w g F tm) (hs : tm.size = n) (hd : dstOk n o) {d : D} {v : Value} (hr : Rep w g d v) : FRel w g (putF F o.dst d) (putV tm o.dst v) ∧ (putV tm o.dst v).size = n := by
  cases ho : o.dst with
  | none => exact ⟨hF, hs⟩
  | some t =>
    have htn := hd t ho
    refine ⟨fun u e he => ?_, by simpa [putV] using hs⟩
    simp only [putF, Fr.get] at he
    cases hb : Nat.beq t u with
    | true =>
      rw [hb] at he
      simp only [cond_true, Option.some.injEq] at he
      subst he
      obtain rfl := Nat.eq_of_beq_eq_true hb
      exact ⟨v, by simp [putV, hs, htn], hr⟩
    | false =>
      rw [hb] at he
      have hne : t ≠ u := fun e => by subst e; rw [Nat.beq_refl] at hb; cases hb
      obtain ⟨x, hx, hrx⟩ := hF u e he
      exact ⟨x, by simp only [putV]; rw [Array.getElem?_setIfInBounds_ne hne]; exact hx, hrx⟩

/-- A call of a yield value. -/
def YTo (P : Program) (b : Nat) (ds : List D) (H : Hp) (R : D → Hp → Prop) : Prop :=
  ∀ (w : World) (g : Gh) (vs : List Value), HRel w g H → RepL w g ds vs → ∃ k nx, g.ρ b = some (k, 0) ∧ (Instr.yield k vs.toArray).run P w = .ok nx w ∧
    CallTo P nx w fun v w' => ∃ d H' g', R d H' ∧ Ev H.length w g (Lof g H) w' g' (Lof g' H') ∧ HRel w' g' H' ∧ H.length ≤ H'.length ∧ Rep w' g' d v

/-- A call of a function value. -/
def ValTo (P : Program) (fv : D) (ds : List D) (H : Hp) (R : D → Hp → Prop) : Prop :=
  match fv with
  | .fn f caps => FnTo P f (ds ++ caps) H R
  | .yield b => YTo P b ds H R
  | _ => False

theorem ValTo.call {fo : Operand} {args : Array Operand} {at_ : Array TypeId} {fv : D} {ds : List D} {R : D → Hp → Prop} (ho : o.op = .call { callee := .value fo, args, argTypes := at_ }) (hf : F.eval fo = some fv) (ha : evals F args.toList = some ds)
    (h : ValTo P fv ds H R) (hH : HRel w g H) (hF : FRel w g F tm) : ∃ nx, (execOp (evalT tm) o).run P w = .ok nx w ∧
      CallTo P nx w fun v w' => ∃ d H' g', R d H' ∧ Ev H.length w g (Lof g H) w' g' (Lof g' H') ∧ HRel w' g' H' ∧ H.length ≤ H'.length ∧ Rep w' g' d v := by
  have hargs := evals_rep hF _ _ ha
  have hfr := evalT_of hF hf
  cases fv with
  | fn f caps =>
    obtain ⟨he, hc⟩ := h
    obtain ⟨vs, hv, hn, hrc⟩ : ∃ vs : Array Value, evalT tm fo = .func (.func f) #[] vs ∧ vs.size = caps.length ∧ ∀ (i : Nat) (d : D) (v : Value), caps[i]? = some d → vs[i]? = some v → Rep w g d v := by
      generalize evalT tm fo = y at hfr
      cases hfr with
      | fn hn h => exact ⟨_, rfl, hn, h⟩
    have hall : RepL w g (ds ++ caps) ((args.toList.map (evalT tm)) ++ vs.toList) := by
      refine ⟨by have := hargs.1; simp at this; simp [hn, this], fun i d v hd hv => ?_⟩
      rw [List.getElem?_append] at hd hv
      rw [hargs.1] at hv
      split at hd
      · rename_i hi; rw [if_pos hi] at hv; exact hargs.2 i d v hd hv
      · rename_i hi; rw [if_neg hi] at hv; exact hrc _ d v hd (by simpa using hv)
    refine ⟨.enter f ((args.toList.map (evalT tm)) ++ vs.toList).toArray, ?_, .inl ⟨f, _, rfl, (hc w g _ hH hall).mono fun e w' ⟨v, d, H', g', e1, r⟩ => ⟨v, e1, d, H', g', r⟩⟩⟩
    rw [execOp]
    simp only [ho, resolve, hv, Deferred.ofValue, Sem.run_bind, Sem.run_pure, Result.andThen_ok, invoke]
    rw [he]
    congr 2
    apply Array.ext'
    simp
  | yield b =>
    obtain ⟨k, nx, hρ, hy, hc⟩ := h w g _ hH hargs
    obtain ⟨hv⟩ : evalT tm fo = .func (.yield k) #[] #[] ∧ True := by
      generalize evalT tm fo = y at hfr
      cases hfr with
      | yield h => rw [hρ] at h; cases h; exact ⟨rfl, trivial⟩
    refine ⟨nx, ?_, hc⟩
    rw [execOp]
    simp only [ho, resolve, hv, Deferred.ofValue, Sem.run_bind, Sem.run_pure, Result.andThen_ok, invoke]
    rw [← hy]
    congr 1
    congr 1
    apply Array.ext'
    simp
  | _ => exact h.elim

theorem noDefer_value {fo : Operand} {args : Array Operand} {at_ : Array TypeId} (ho : o.op = .call { callee := .value fo, args, argTypes := at_ }) : ∀ c, o.op ≠ .defer c := by
  intro c h; rw [ho] at h; cases h

theorem HStep.noDefer {nx : Nat} {d : D} {rd : List Nat} {wr : List (Nat × Option Blk)} (h : HStep P F H nx o d rd wr) : ∀ c, o.op ≠ .defer c := by
  intro c hc
  cases h with
  | pure h _ => rw [hc] at h; simp [vop] at h
  | pickT ho | pickF ho | loadS ho | loadSA ho | alloc ho | box ho | make ho | load ho | loadA ho | store ho | sliceArr ho | appendNew ho | appendSame ho | appendF ho | appendMv ho | appendIn ho | copy ho | clear ho | clear0 ho => rw [hc] at ho; cases ho

/-- A region carried out in the order of its text, from the operations 'r' on. -/
def SeqK (P : Program) (n N : Nat) (all : Array Oper) (r : List Oper) (F : Fr) (H : Hp) (K : Fr → Hp → Prop) : Prop :=
  ∀ (i : Nat), all.toList.drop i = r → ∀ (w : World) (g : Gh) (tm : Array Value), HRel w g H → FRel w g F tm → tm.size = n → N ≤ H.length →
    OpsTo P all (List.range' i r.length) tm w fun tm' w' => ∃ F' H' g', K F' H' ∧ Ev N w g (Lof g H) w' g' (Lof g' H') ∧ HRel w' g' H' ∧ N ≤ H'.length ∧ FRel w' g' F' tm' ∧ tm'.size = n

theorem OpsTo.mono {sched : List Nat} {R R' : Array Value → World → Prop} (h : OpsTo P all sched tm w R) (hr : ∀ tm w, R tm w → R' tm w) : OpsTo P all sched tm w R' :=
  fun b df k cs => let ⟨tm', w', r, s⟩ := h b df k cs; ⟨tm', w', hr _ _ r, s⟩

variable {r : List Oper} {K : Fr → Hp → Prop} {Q : Post}

theorem W.region_seq {id : Nat} (h : SeqK P n N all all.toList F H (Q .normal)) : W P n N (.region id all false) Q F H := by
  intro w g tm df hH hF hs hl
  have h1 := h 0 (by simp) w g tm hH hF hs hl
  rw [Array.length_toList, ← List.range_eq_range'] at h1
  exact .region (h1.mono fun tm' w' ⟨F', H', g', q, ev, hr, hl', hf, hs'⟩ => ⟨F', H', g', q, .same_df ev hr hl', hf, hs'⟩)

theorem SeqK.nil (h : K F H) : SeqK P n N all [] F H K :=
  fun _ _ _ g _ hH hF hs hl => .nil ⟨F, H, g, h, .refl _ _ _ _, hH, hl, hF, hs⟩

theorem drop_cons {l r : List Oper} {i : Nat} (h : l.drop i = o :: r) : l[i]? = some o ∧ l.drop (i + 1) = r := by
  have h1 : l[i]? = some o := by
    have : (l.drop i)[0]? = some o := by rw [h]; rfl
    rwa [List.getElem?_drop, Nat.add_zero] at this
  refine ⟨h1, ?_⟩
  rw [← List.drop_drop, h]
  rfl

theorem SeqK.skip (hw : Wanted all.toList F o false) (hd : dstOk n o) (k : SeqK P n N all r (putF F o.dst (.tup [])) H K) : SeqK P n N all (o :: r) F H K := by
  intro i hi w g tm hH hF hs hl
  obtain ⟨ho, hi'⟩ := drop_cons hi
  obtain ⟨hF', hs'⟩ := put_rel hF hs hd (d := .tup []) (v := undef) (.tup rfl (by simp))
  simp only [List.length_cons, List.range'_succ]
  exact .skip (by simpa using ho) (hw.run hF) (k (i + 1) hi' w g _ hH hF' hs' hl)

theorem SeqK.step {d : D} {rd : List Nat} {wr : List (Nat × Option Blk)} (hw : Wanted all.toList F o true) (h : HStep P F H H.length o d rd wr) (hd : dstOk n o) (hlen : H.length ≤ (applyW H wr).length) (k : SeqK P n N all r (putF F o.dst d) (applyW H wr) K) : SeqK P n N all (o :: r) F H K := by
  intro i hi w g tm hH hF hs hl
  obtain ⟨ho, hi'⟩ := drop_cons hi
  have ho' : all[i]? = some o := by simpa using ho
  obtain ⟨v, w', g', hrun, hdid, hrep⟩ := h.sound (N := N) hH hF (hH.dom _ (Nat.le_refl _)) hl
  obtain ⟨hF', hs'⟩ := put_rel (hF.keeps hdid.kp) hs hd hrep
  have k' := (k (i + 1) hi' w' g' _ hdid.hrel hF' hs' (by omega)).mono (R' := fun tm' w2 => ∃ F' H' g2, K F' H' ∧ Ev N w g (Lof g H) w2 g2 (Lof g2 H') ∧ HRel w2 g2 H' ∧ N ≤ H'.length ∧ FRel w2 g2 F' tm' ∧ tm'.size = n)
    fun tm' w2 ⟨F', H', g2, q, ev, rest⟩ => ⟨F', H', g2, q, hdid.ev.trans ev, rest⟩
  simp only [List.length_cons, List.range'_succ]
  rcases hrun with hrun | ⟨hrun, rfl⟩
  · exact .value ho' (hw.run hF) h.noDefer hrun k'
  · exact .unit ho' (hw.run hF) h.noDefer hrun k'

theorem SeqK.call {fo : Operand} {args : Array Operand} {at_ : Array TypeId} {fv : D} {ds : List D} {R : D → Hp → Prop} (hw : Wanted all.toList F o true) (ho : o.op = .call { callee := .value fo, args, argTypes := at_ }) (hf : F.eval fo = some fv) (ha : evals F args.toList = some ds)
    (h : ValTo P fv ds H R) (hd : dstOk n o) (k : ∀ d H', R d H' → SeqK P n N all r (putF F o.dst d) H' K) : SeqK P n N all (o :: r) F H K := by
  intro i hi w g tm hH hF hs hl
  obtain ⟨hoi, hi'⟩ := drop_cons hi
  have ho' : all[i]? = some o := by simpa using hoi
  obtain ⟨nx, hrun, hcall⟩ := h.call ho hf ha hH hF
  simp only [List.length_cons, List.range'_succ]
  refine .call ho' (hw.run hF) (noDefer_value ho) hrun ?_
  have step : ∀ v w', (∃ d H' g', R d H' ∧ Ev H.length w g (Lof g H) w' g' (Lof g' H') ∧ HRel w' g' H' ∧ H.length ≤ H'.length ∧ Rep w' g' d v) →
      OpsTo P all (List.range' (i + 1) r.length) (putV tm o.dst v) w' fun tm' w2 => ∃ F' H' g2, K F' H' ∧ Ev N w g (Lof g H) w2 g2 (Lof g2 H') ∧ HRel w2 g2 H' ∧ N ≤ H'.length ∧ FRel w2 g2 F' tm' ∧ tm'.size = n := by
    rintro v w' ⟨d, H', g', hR, ev, hH', hl', hrep⟩
    have kp := ev.keeps hH (Nat.le_refl _)
    obtain ⟨hF', hs'⟩ := put_rel (hF.keeps kp) hs hd hrep
    exact (k d H' hR (i + 1) hi' w' g' _ hH' hF' hs' (by omega)).mono fun tm' w2 ⟨F', H2, g2, q, ev2, rest⟩ => ⟨F', H2, g2, q, (ev.le hl).trans ev2, rest⟩
  rcases hcall with ⟨f, a, rfl, hc⟩ | ⟨l, f, tmps, assign, body, rfl, hc⟩
  · exact .inl ⟨f, a, rfl, hc.mono fun e w' ⟨v, e1, r⟩ => ⟨v, e1, step v w' r⟩⟩
  · exact .inr ⟨l, f, tmps, assign, body, rfl, fun c cs => let ⟨v, w', r, s⟩ := hc c cs; ⟨v, w', step v w' r, s⟩⟩

end
end Go.V

/- The logic V, part 17: the orders in which a region may be carried out. -/
namespace Go.V

theorem sorted_eq : ∀ (l1 l2 : List Nat), l1.Pairwise (· < ·) → l2.Pairwise (· < ·) → (∀ x, x ∈ l1 ↔ x ∈ l2) → l1 = l2
  | [], [], _, _, _ => rfl
  | [], y :: l2, _, _, h => by have := (h y).2 (by simp); cases this
  | x :: l1, [], _, _, h => by have := (h x).1 (by simp); cases this
  | x :: l1, y :: l2, h1, h2, h => by
    have p1 := List.pairwise_cons.1 h1
    have p2 := List.pairwise_cons.1 h2
    have hxy : x = y := by
      rcases List.mem_cons.1 ((h x).1 (by simp)) with e | e
      · exact e
      · rcases List.mem_cons.1 ((h y).2 (by simp)) with e' | e'
        · exact e'.symm
        · have := p2.1 x e
          have := p1.1 y e'
          omega
    subst hxy
    congr 1
    refine sorted_eq l1 l2 p1.2 p2.2 fun z => ⟨fun hz => ?_, fun hz => ?_⟩
    · rcases List.mem_cons.1 ((h z).1 (by simp [hz])) with e | e
      · subst e; have := p1.1 z hz; omega
      · exact e
    · rcases List.mem_cons.1 ((h z).2 (by simp [hz])) with e | e
      · subst e; have := p2.1 z hz; omega
      · exact e

/-- No edge that binds leads forward. -/
def acyclic (ops : Array Oper) : Bool := ops.toList.zipIdx.all fun (o, i) => o.after.toList.all fun e => !Region.binds .any e || Nat.blt e.on i

theorem acyclic_spec {ops : Array Oper} (h : acyclic ops = true) {i : Nat} {o : Oper} (ho : ops[i]? = some o) {e : Edge} (he : e ∈ o.after) (hb : Region.binds .any e = true) : e.on < i := by
  unfold acyclic at h
  rw [List.all_eq_true] at h
  have hm : (o, i) ∈ ops.toList.zipIdx := by
    rw [List.mem_zipIdx_iff_getElem?]
    simpa using ho
  have := h _ hm
  simp only [List.all_eq_true] at this
  have h2 := this e (by simpa using he)
  rw [hb] at h2
  simp only [Bool.not_true, Bool.false_or] at h2
  exact Nat.blt_eq ▸ h2

structure Order (ops : Array Oper) (l : List Nat) : Prop where
  nodup : l.Nodup
  mem : ∀ i, i ∈ l ↔ i < ops.size
  resp : ∀ l1 j l2, l = l1 ++ j :: l2 → ∀ o, ops[j]? = some o → ∀ e ∈ o.after, Region.binds .any e = true → e.on ∈ l1

def readyL (ops : Array Oper) (listed : Array Bool) : List Nat :=
  (List.range ops.size).filter fun i => !listed.getD i true && ((ops[i]?).map (·.after.all fun e => !Region.binds .any e || listed.getD e.on false)).getD false

theorem go_succ (ops : Array Oper) (fuel t : Nat) (listed : Array Bool) (acc : List Nat) :
    Region.linearise.go .any ops (fuel + 1) t listed acc = match (readyL ops listed)[t % (readyL ops listed).length]? with
      | some i => Region.linearise.go .any ops fuel (t / (readyL ops listed).length) (listed.setIfInBounds i true) (i :: acc)
      | none => acc.reverse := by
  rw [Region.linearise.go]
  rfl

/-- What holds while the order is made: 'acc' (backwards) is what is listed. -/
structure Made (ops : Array Oper) (listed : Array Bool) (acc : List Nat) : Prop where
  size : listed.size = ops.size
  listed : ∀ i, i < ops.size → (listed.getD i false = true ↔ i ∈ acc)
  lt : ∀ i ∈ acc, i < ops.size
  nodup : acc.Nodup
  resp : ∀ l1 j l2, acc.reverse = l1 ++ j :: l2 → ∀ o, ops[j]? = some o → ∀ e ∈ o.after, Region.binds .any e = true → e.on ∈ l1

theorem Made.step {ops : Array Oper} {listed : Array Bool} {acc : List Nat} (hac : acyclic ops = true) (m : Made ops listed acc) {i : Nat} (hi : i ∈ readyL ops listed) : Made ops (listed.setIfInBounds i true) (i :: acc) := by
  unfold readyL at hi
  rw [List.mem_filter] at hi
  obtain ⟨hr, hc⟩ := hi
  have hlt : i < ops.size := by simpa using hr
  rw [Bool.and_eq_true] at hc
  have hni : i ∉ acc := by
    intro h
    have h2 := (m.listed i hlt).2 h
    have h3 : listed.getD i true = true := by
      rw [Array.getD_eq_getD_getElem?] at h2 ⊢
      cases hx : listed[i]? with
      | none => rfl
      | some b => rw [hx] at h2; simpa using h2
    rw [h3] at hc
    simp at hc
  refine ⟨by simp [m.size], fun j hj => ?_, fun j hj => ?_, List.nodup_cons.2 ⟨hni, m.nodup⟩, ?_⟩
  · by_cases hji : j = i
    · subst hji
      simp only [Array.getD_eq_getD_getElem?, List.mem_cons, true_or, iff_true]
      rw [Array.getElem?_setIfInBounds_self_of_lt (by rw [m.size]; exact hj)]
      rfl
    · simp only [Array.getD_eq_getD_getElem?, List.mem_cons, hji, false_or]
      rw [Array.getElem?_setIfInBounds_ne (fun e => hji e.symm), ← Array.getD_eq_getD_getElem?]
      exact m.listed j hj
  · rcases List.mem_cons.1 hj with rfl | h
    · exact hlt
    · exact m.lt j h
  · intro l1 j l2 he o ho e hem hb
    simp only [List.reverse_cons] at he
    rcases List.eq_nil_or_concat l2 with rfl | ⟨l2', y, rfl⟩
    · have h1 : acc.reverse = l1 ∧ [i] = [j] := List.append_inj' he rfl
      obtain ⟨h1, h2⟩ := h1
      cases h2
      rw [← h1, List.mem_reverse]
      have hoe : (ops[i]?).map (·.after.all fun e => !Region.binds .any e || listed.getD e.on false) = some true := by
        cases hx : (ops[i]?).map (·.after.all fun e => !Region.binds .any e || listed.getD e.on false) with
        | none => rw [hx] at hc; simp at hc
        | some b => rw [hx] at hc; simp at hc; rw [hc.2]
      rw [ho] at hoe
      simp only [Option.map_some, Option.some.injEq] at hoe
      rw [Array.all_eq_true'] at hoe
      have h3 := hoe e hem
      rw [hb] at h3
      simp only [Bool.not_true, Bool.false_or] at h3
      have hlt2 : e.on < ops.size := by have := acyclic_spec hac ho hem hb; omega
      exact (m.listed e.on hlt2).1 h3
    · have h1 : acc.reverse ++ [i] = (l1 ++ j :: l2') ++ [y] := by rw [he]; simp
      have h2 := (List.append_inj' h1 rfl).1
      exact m.resp l1 j l2' h2 o ho e hem hb

theorem ready_of_missing {ops : Array Oper} {listed : Array Bool} {acc : List Nat} (hac : acyclic ops = true) (m : Made ops listed acc) : ∀ i, i < ops.size → i ∉ acc → readyL ops listed ≠ [] := by
  intro i
  induction i using Nat.strongRecOn with
  | _ i ih =>
    intro hi hn
    by_cases hp : ∃ e ∈ (ops[i]).after, Region.binds .any e = true ∧ e.on ∉ acc
    · obtain ⟨e, he, hb, hna⟩ := hp
      have hlt := acyclic_spec hac (i := i) (o := ops[i]) (by simp [hi]) he hb
      exact ih e.on hlt (by omega) hna
    · intro hnil
      have : i ∈ readyL ops listed := by
        unfold readyL
        rw [List.mem_filter]
        refine ⟨by simpa using hi, ?_⟩
        have h1 : listed.getD i true = false := by
          have h2 : ¬ listed.getD i false = true := fun h => hn ((m.listed i hi).1 h)
          rw [Array.getD_eq_getD_getElem?] at h2 ⊢
          rw [Array.getElem?_eq_getElem (by rw [m.size]; exact hi)] at h2 ⊢
          simpa using h2
        rw [h1]
        simp only [Bool.not_false, Bool.true_and]
        rw [Array.getElem?_eq_getElem hi]
        simp only [Option.map_some, Option.getD_some]
        rw [Array.all_eq_true']
        intro e he
        cases hb : Region.binds .any e with
        | false => rfl
        | true =>
          simp only [Bool.not_true, Bool.false_or]
          have hin : e.on ∈ acc := by
            rcases Classical.em (e.on ∈ acc) with h | h
            · exact h
            · exact absurd ⟨e, he, hb, h⟩ hp
          exact (m.listed e.on (m.lt _ hin)).2 hin
      rw [hnil] at this
      cases this

theorem go_order {ops : Array Oper} (hac : acyclic ops = true) : ∀ (fuel t : Nat) (listed : Array Bool) (acc : List Nat), Made ops listed acc → acc.length + fuel = ops.size → Order ops (Region.linearise.go .any ops fuel t listed acc)
  | 0, t, listed, acc, m, hl => by
    rw [Region.linearise.go]
    refine ⟨List.pairwise_reverse.2 (m.nodup.imp fun h => h.symm), fun i => ⟨fun h => m.lt i (List.mem_reverse.1 h), fun h => List.mem_reverse.2 ?_⟩, m.resp⟩
    -- all are listed: as many as there are, none twice
    rcases Classical.em (i ∈ acc) with hin | hin
    · exact hin
    · exfalso
      have hsub : acc ⊆ (List.range ops.size).erase i := fun x hx => by
        have hne : x ≠ i := fun e => hin (by rw [← e]; exact hx)
        rw [List.mem_erase_of_ne hne]
        simpa using m.lt x hx
      have h1 := m.nodup.length_le_of_subset hsub
      rw [List.length_erase_of_mem (by simpa using h)] at h1
      simp at h1
      omega
  | fuel + 1, t, listed, acc, m, hl => by
    rw [go_succ]
    have hne : readyL ops listed ≠ [] := by
      obtain ⟨i, hi, hn⟩ : ∃ i, i < ops.size ∧ i ∉ acc := by
        rcases Classical.em (∃ i, i < ops.size ∧ i ∉ acc) with h | h
        · exact h
        · exfalso
          have hsub : List.range ops.size ⊆ acc := fun x hx => by
            rcases Classical.em (x ∈ acc) with h1 | h1
            · exact h1
            · exact absurd ⟨x, by simpa using hx, h1⟩ h
          have := (List.nodup_range (n := ops.size)).length_le_of_subset hsub
          simp at this
          omega
      exact ready_of_missing hac m i hi hn
    have hpos : 0 < (readyL ops listed).length := List.length_pos_iff.2 hne
    have hidx : t % (readyL ops listed).length < (readyL ops listed).length := Nat.mod_lt _ hpos
    rw [List.getElem?_eq_getElem hidx]
    exact go_order hac fuel _ _ _ (m.step hac (List.getElem_mem hidx)) (by simp; omega)

theorem linearise_order {ops : Array Oper} (hac : acyclic ops = true) (t : Nat) : Order ops (Region.linearise .any ops t) := by
  refine go_order hac _ _ _ _ ⟨by simp, fun i hi => ?_, by simp, List.nodup_nil, ?_⟩ (by simp)
  · simp [Array.getD_eq_getD_getElem?, hi]
  · intro l1 j l2 h; simp at h

/-- Is i ahead of j, by the edges? -/
def ahead (ops : Array Oper) (i j : Nat) : Bool := ((Region.before ops).getD j 0).testBit i

end Go.V

/- The logic V, part 18: a region whose order Go leaves open comes to the same in every order, if what clashes is ordered. -/
namespace Go.V

def maskOf (o : Oper) (acc : List Nat) : Nat := o.after.toList.foldl (fun s e => bif Region.binds .any e then s ||| 2 ^ e.on ||| acc.getD e.on 0 else s) 0

def masks : List Oper → List Nat → List Nat
  | [], acc => acc
  | o :: r, acc => masks r (acc ++ [maskOf o acc])

inductive Path (ops : Array Oper) : Nat → Nat → Prop where
  | edge {j : Nat} {o : Oper} {e : Edge} (ho : ops[j]? = some o) (he : e ∈ o.after) (hb : Region.binds .any e = true) : Path ops e.on j
  | step {i j : Nat} {o : Oper} {e : Edge} (h : Path ops i e.on) (ho : ops[j]? = some o) (he : e ∈ o.after) (hb : Region.binds .any e = true) : Path ops i j

theorem maskOf_bit {o : Oper} {acc : List Nat} {i : Nat} (h : (maskOf o acc).testBit i = true) : ∃ e ∈ o.after, Region.binds .any e = true ∧ (e.on = i ∨ (acc.getD e.on 0).testBit i = true) := by
  have key : ∀ (l : List Edge) (s : Nat), (l.foldl (fun s e => bif Region.binds .any e then s ||| 2 ^ e.on ||| acc.getD e.on 0 else s) s).testBit i = true →
      s.testBit i = true ∨ ∃ e ∈ l, Region.binds .any e = true ∧ (e.on = i ∨ (acc.getD e.on 0).testBit i = true) := by
    intro l
    induction l with
    | nil => intro s h; exact .inl h
    | cons e l ih =>
      intro s h
      simp only [List.foldl_cons] at h
      rcases ih _ h with h1 | ⟨e', he', r⟩
      · cases hb : Region.binds .any e with
        | false => rw [hb] at h1; exact .inl h1
        | true =>
          rw [hb] at h1
          simp only [cond_true, Nat.testBit_or, Bool.or_eq_true] at h1
          rcases h1 with (h1 | h1) | h1
          · exact .inl h1
          · refine .inr ⟨e, by simp, hb, .inl ?_⟩
            rw [Nat.testBit_two_pow] at h1
            simpa using h1
          · exact .inr ⟨e, by simp, hb, .inr h1⟩
      · exact .inr ⟨e', by simp [he'], r⟩
  rcases key _ _ h with h1 | ⟨e, he, r⟩
  · simp at h1
  · exact ⟨e, by simpa using he, r⟩

theorem masks_path (ops : Array Oper) : ∀ (r : List Oper) (acc : List Nat), ops.toList.drop acc.length = r → (∀ j i, (acc.getD j 0).testBit i = true → Path ops i j) →
    ∀ j i, ((masks r acc).getD j 0).testBit i = true → Path ops i j
  | [], acc, _, h => h
  | o :: r, acc, hd, h => by
    obtain ⟨ho, hd'⟩ := drop_cons hd
    have ho' : ops[acc.length]? = some o := by simpa using ho
    refine masks_path ops r (acc ++ [maskOf o acc]) (by simpa using hd') fun j i hb => ?_
    rw [List.getD_eq_getElem?_getD, List.getElem?_append] at hb
    split at hb
    · exact h j i (by rwa [List.getD_eq_getElem?_getD])
    · rename_i hj
      have hj0 : j - acc.length = 0 := by
        rcases Nat.eq_zero_or_pos (j - acc.length) with h0 | h0
        · exact h0
        · rw [List.getElem?_eq_none (by simp; omega)] at hb
          simp at hb
      rw [hj0] at hb
      have hjl : j = acc.length := by omega
      subst hjl
      simp only [List.getElem?_cons_zero, Option.getD_some] at hb
      obtain ⟨e, he, hbe, hor⟩ := maskOf_bit hb
      rcases hor with rfl | hor
      · exact .edge ho' he hbe
      · exact .step (h _ _ hor) ho' he hbe

def aheadB (ops : Array Oper) (i j : Nat) : Bool := ((masks ops.toList []).getD j 0).testBit i

theorem ahead_mem {ops : Array Oper} {l : List Nat} (ho : Order ops l) {i j : Nat} (h : aheadB ops i j = true) : ∀ l1 l2, l = l1 ++ j :: l2 → i ∈ l1 := by
  have hp := masks_path ops ops.toList [] (by simp) (by simp) j i h
  clear h
  induction hp with
  | edge hoj he hb => exact fun l1 l2 hl => ho.resp l1 _ l2 hl _ hoj _ he hb
  | @step i j o e _ hoj he hb ih =>
    intro l1 l2 hl
    have hm := ho.resp l1 _ l2 hl _ hoj _ he hb
    obtain ⟨a, b, rfl⟩ := List.append_of_mem hm
    have := ih a (b ++ j :: l2) (by rw [hl]; simp)
    simp [this]

theorem snocInd {α : Type} {C : List α → Prop} (h0 : C []) (h1 : ∀ l x, C l → C (l ++ [x])) (l : List α) : C l := by
  have key : ∀ m : List α, C m.reverse := by
    intro m
    induction m with
    | nil => exact h0
    | cons x m ih => rw [List.reverse_cons]; exact h1 _ _ ih
  have := key l.reverse
  rwa [List.reverse_reverse] at this

/-- The part of an order that a predicate picks out, where the predicate's places are ordered among themselves and against j. -/
theorem filter_before {ops : Array Oper} {l : List Nat} (ho : Order ops l) (p : Nat → Bool) (hpp : ∀ i i', i < i' → i' < ops.size → p i = true → p i' = true → aheadB ops i i' = true) {l1 l2 : List Nat} {j : Nat} (hl : l = l1 ++ j :: l2)
    (hj1 : ∀ i, i < j → p i = true → aheadB ops i j = true) (hj2 : ∀ i, j < i → i < ops.size → p i = true → aheadB ops j i = true) : l1.filter p = (List.range j).filter p := by
  have hjs : j < ops.size := (ho.mem j).1 (by rw [hl]; simp)
  have hnd := ho.nodup
  rw [hl] at hnd
  have hnd' := List.nodup_append.1 hnd
  have hmem : ∀ x, x ∈ l1 → x < ops.size := fun x hx => (ho.mem x).1 (by rw [hl]; simp [hx])
  refine sorted_eq _ _ ?_ ?_ ?_
  · -- what is listed in order
    have : ∀ (m1 : List Nat) (rest : List Nat), l = m1 ++ rest → (m1.filter p).Pairwise (· < ·) := by
      intro m1
      induction m1 using snocInd with
      | h0 => intro _ _; simp
      | h1 m x ih =>
        intro rest hr
        have hr' : l = m ++ x :: rest := by rw [hr]; simp
        rw [List.filter_append]
        refine List.pairwise_append.2 ⟨ih _ hr', ?_, ?_⟩
        · simp only [List.filter_cons, List.filter_nil]
          split <;> simp
        · intro a ha b hb
          simp only [List.filter_cons, List.filter_nil] at hb
          split at hb
          · rename_i hpx
            simp only [List.mem_singleton] at hb
            subst hb
            have ham := List.mem_filter.1 ha
            have hn2 := ho.nodup
            rw [hr'] at hn2
            have hn3 := List.nodup_append.1 hn2
            have hne : a ≠ b := fun e => hn3.2.2 a ham.1 b (by simp) e
            rcases Nat.lt_or_gt_of_ne hne with h | h
            · exact h
            · -- b before a: then b is listed ahead of a
              obtain ⟨u, v, huv⟩ := List.append_of_mem ham.1
              have hah := hpp b a h ((ho.mem a).1 (by rw [hr']; simp [ham.1])) hpx ham.2
              have := ahead_mem ho hah u (v ++ b :: rest) (by rw [hr', huv]; simp)
              exact absurd rfl (hn3.2.2 b (by rw [huv]; simp [this]) b (by simp))
          · cases hb
    exact this l1 _ hl
  · exact (List.pairwise_lt_range).filter _
  · intro x
    simp only [List.mem_filter, List.mem_range]
    constructor
    · rintro ⟨hx, hp⟩
      refine ⟨?_, hp⟩
      have hne : x ≠ j := fun e => hnd'.2.2 x hx j (by simp) e
      rcases Nat.lt_or_gt_of_ne hne with h | h
      · exact h
      · obtain ⟨u, v, huv⟩ := List.append_of_mem hx
        have hah := hj2 x h (hmem x hx) hp
        have := ahead_mem ho hah u (v ++ j :: l2) (by rw [hl, huv]; simp)
        exact absurd rfl (hnd'.2.2 j (by rw [huv]; simp [this]) j (by simp))
    · rintro ⟨hx, hp⟩
      exact ⟨ahead_mem ho (hj1 x hx hp) l1 l2 hl, hp⟩

theorem filter_all {ops : Array Oper} {l : List Nat} (ho : Order ops l) (p : Nat → Bool) (hpp : ∀ i i', i < i' → i' < ops.size → p i = true → p i' = true → aheadB ops i i' = true) : l.filter p = (List.range ops.size).filter p := by
  refine sorted_eq _ _ ?_ ((List.pairwise_lt_range).filter _) (fun x => by simp [List.mem_filter, ho.mem x])
  have : ∀ (m1 : List Nat) (rest : List Nat), l = m1 ++ rest → (m1.filter p).Pairwise (· < ·) := by
    intro m1
    induction m1 using snocInd with
    | h0 => intro _ _; simp
    | h1 m x ih =>
      intro rest hr
      have hr' : l = m ++ x :: rest := by rw [hr]; simp
      rw [List.filter_append]
      refine List.pairwise_append.2 ⟨ih _ hr', ?_, ?_⟩
      · simp only [List.filter_cons, List.filter_nil]
        split <;> simp
      · intro a ha b hb
        simp only [List.filter_cons, List.filter_nil] at hb
        split at hb
        · rename_i hpx
          simp only [List.mem_singleton] at hb
          subst hb
          have ham := List.mem_filter.1 ha
          have hn2 := ho.nodup
          rw [hr'] at hn2
          have hn3 := List.nodup_append.1 hn2
          have hne : a ≠ b := fun e => hn3.2.2 a ham.1 b (by simp) e
          rcases Nat.lt_or_gt_of_ne hne with h | h
          · exact h
          · obtain ⟨u, v, huv⟩ := List.append_of_mem ham.1
            have hah := hpp b a h ((ho.mem a).1 (by rw [hr']; simp [ham.1])) hpx ham.2
            have := ahead_mem ho hah u (v ++ b :: rest) (by rw [hr', huv]; simp)
            exact absurd rfl (hn3.2.2 b (by rw [huv]; simp [this]) b (by simp))
        · cases hb
  exact this l [] (by simp)

end Go.V

/- The logic V, part 19: regions that draw their order: the steps, and where they may be carried out. -/
namespace Go.V

structure Ent where
  d : D
  rd : List Nat
  wr : List (Nat × Option Blk)
  wild : Option Hp
  deriving Inhabited

def Ent.after (e : Ent) (H : Hp) : Hp := match e.wild with
  | some H' => H'
  | none => applyW H e.wr

def idsOf (wr : List (Nat × Option Blk)) : List Nat := wr.map (·.1)

def Ent.touches (e : Ent) : Bool := !e.rd.isEmpty || !e.wr.isEmpty || e.wild.isSome
def Ent.writes (e : Ent) : Bool := !e.wr.isEmpty || e.wild.isSome
def Ent.writesB (e : Ent) (b : Nat) : Bool := e.wild.isSome || (idsOf e.wr).contains b

def opTemps (o : Oper) : List Nat := o.op.operands.toList.filterMap fun | .tmp t => some t | _ => none
def guardTemps (all : List Oper) (o : Oper) : List Nat := match o.guard with
  | none => []
  | some (j, _) => match all[j]? with
    | some oj => match oj.dst with
      | some t => [t]
      | none => []
    | none => []

def AgF (T : List Nat) (F F' : Fr) : Prop := ∀ t ∈ T, F'.get t = F.get t
def AgH (ids : List Nat) (H H' : Hp) : Prop := ∀ b ∈ ids, ∀ x, H[b]? = some (some x) → H'[b]? = some (some x)

section
variable {P : Program} {F F' : Fr} {H H' : Hp} {o : Oper} {all : List Oper}

theorem eval_congr (h : AgF (opTemps o) F F') : ∀ x ∈ o.op.operands, F'.eval x = F.eval x := by
  intro x hx
  cases x with
  | tmp t =>
    refine h t ?_
    unfold opTemps
    rw [List.mem_filterMap]
    exact ⟨.tmp t, by simpa using hx, rfl⟩
  | _ => rfl

theorem evals_congr : ∀ (xs : List Operand), (∀ x ∈ xs, F'.eval x = F.eval x) → evals F' xs = evals F xs
  | [], _ => rfl
  | x :: r, h => by
    simp only [evals]
    rw [h x (by simp), evals_congr r (fun y hy => h y (by simp [hy]))]

theorem bound_congr {x : Option Operand} {n : Int} (h : ∀ y, x = some y → F'.eval y = F.eval y) : bound F' x n = bound F x n := by
  cases x with
  | none => rfl
  | some y => simp only [bound, h y rfl]

theorem parts_congr (parts : List (Nat × Operand)) (h : ∀ x ∈ parts.map (·.2), F'.eval x = F.eval x) : (parts.map fun (x : Nat × Operand) => (x.1, F'.eval x.2)) = parts.map fun (x : Nat × Operand) => (x.1, F.eval x.2) := by
  apply List.map_congr_left
  intro p hp
  rw [h p.2 (List.mem_map.2 ⟨p, hp, rfl⟩)]

theorem vop_congr (op : Op) (h : ∀ x ∈ op.operands, F'.eval x = F.eval x) : vop P F' op = vop P F op := by
  cases op with
  | move x | assign x => simp only [vop]; rw [h x (by simp [Op.operands])]
  | pick c a b => simp only [vop]; rw [h c (by simp [Op.operands]), h a (by simp [Op.operands]), h b (by simp [Op.operands])]
  | binOp op t x y t' => simp only [vop]; rw [h x (by simp [Op.operands]), h y (by simp [Op.operands])]
  | unOp op t x => simp only [vop]; rw [h x (by simp [Op.operands])]
  | convert s t x => simp only [vop]; rw [h x (by simp [Op.operands])]
  | build t parts =>
    have := parts_congr (F := F) (F' := F') parts.toList (fun x hx => h x (by simpa [Op.operands] using hx))
    simp only [vop]
    simp only [this]
  | buildSlice t n parts =>
    have := parts_congr (F := F) (F' := F') parts.toList (fun x hx => h x (by simpa [Op.operands] using hx))
    simp only [vop]
    simp only [this]
  | load t x => simp only [vop]; rw [h x (by simp [Op.operands])]
  | nilCheck x => simp only [vop]; rw [h x (by simp [Op.operands])]
  | makeInterface t x => simp only [vop]; rw [h x (by simp [Op.operands])]
  | makeFunc f a c =>
    cases f with
    | func f =>
      simp only [vop]
      rw [evals_congr c.toList (fun x hx => h x (by simp [Op.operands]; exact .inr (by simpa using hx)))]
    | _ => rfl
  | fieldAddr t x i => simp only [vop]; rw [h x (by simp [Op.operands])]
  | field t x i => simp only [vop]; rw [h x (by simp [Op.operands])]
  | indexAddr t x i => simp only [vop]; rw [h x (by simp [Op.operands]), h i (by simp [Op.operands])]
  | index t x i => simp only [vop]; rw [h x (by simp [Op.operands]), h i (by simp [Op.operands])]
  | extract x i => simp only [vop]; rw [h x (by simp [Op.operands])]
  | typeAssert x a b ok => simp only [vop]; rw [h x (by simp [Op.operands])]
  | slice t x lo hi mx =>
    simp only [vop]
    rw [h x (by simp [Op.operands])]
    have h1 : ∀ n, bound F' lo n = bound F lo n := fun n => bound_congr fun y hy => h y (by subst hy; simp [Op.operands])
    have h2 : ∀ n, bound F' hi n = bound F hi n := fun n => bound_congr fun y hy => h y (by subst hy; simp [Op.operands])
    simp only [h1, h2]
    cases mx with
    | none => rfl
    | some y =>
      have hy := h y (by simp [Op.operands])
      simp only [hy]
  | call c =>
    obtain ⟨callee, args, at_⟩ := c
    cases callee with
    | builtin b =>
      have ha : ∀ x ∈ args.toList, F'.eval x = F.eval x := fun x hx => h x (by simp [Op.operands, Call.operands]; simpa using hx)
      generalize hal : args.toList = al at ha
      cases b <;> try rfl
      all_goals
        simp only [vop, hal]
        generalize at_.toList = tl
        match al, ha, tl with
        | [], _, [] | [], _, [_] | [], _, [_, _] | [], _, _ :: _ :: _ :: _ => rfl
        | [x], ha, [] | [x], ha, [_] | [x], ha, [_, _] | [x], ha, _ :: _ :: _ :: _ => first | rfl | rw [ha x (by simp)] | (dsimp only; rw [ha x (by simp)])
        | [x, y], ha, [] | [x, y], ha, [_] | [x, y], ha, [_, _] | [x, y], ha, _ :: _ :: _ :: _ => first | rfl | rw [ha x (by simp), ha y (by simp)] | (dsimp only; rw [ha x (by simp), ha y (by simp)])
        | _ :: _ :: _ :: _, _, [] | _ :: _ :: _ :: _, _, [_] | _ :: _ :: _ :: _, _, [_, _] | _ :: _ :: _ :: _, _, _ :: _ :: _ :: _ => rfl
    | value f => rfl
    | invoke r m => rfl
  | _ => rfl

theorem Src.congr {s n : Nat} {d : D} {cs : List D} {rd : List Nat} (h : Src H s d n cs rd) (hh : AgH rd H H') : Src H' s d n cs rd := by
  cases h with
  | snil => exact .snil
  | snap h => exact .snap h
  | live hb h => exact .live (hh _ (by simp) _ hb) h

theorem HStep.congr {nx : Nat} {d : D} {rd : List Nat} {wr : List (Nat × Option Blk)} (h : HStep P F H nx o d rd wr) (hf : ∀ x ∈ o.op.operands, F'.eval x = F.eval x) (hh : AgH rd H H') : HStep P F' H' nx o d rd wr := by
  cases h with
  | pure h hp => exact .pure (by rw [vop_congr o.op hf]; exact h) hp
  | pickT ho hc ht h => exact .pickT ho (by rw [hf _ (by rw [ho]; simp [Op.operands])]; exact hc) ht (by rw [hf _ (by rw [ho]; simp [Op.operands])]; exact h)
  | pickF ho hc ht h => exact .pickF ho (by rw [hf _ (by rw [ho]; simp [Op.operands])]; exact hc) ht (by rw [hf _ (by rw [ho]; simp [Op.operands])]; exact h)
  | loadS ho hx hu ha hd => exact .loadS ho (by rw [hf _ (by rw [ho]; simp [Op.operands])]; exact hx) hu ha hd
  | loadSA ho hx hu ha hs hd => exact .loadSA ho (by rw [hf _ (by rw [ho]; simp [Op.operands])]; exact hx) hu ha hs hd
  | alloc ho hz hn => exact .alloc ho hz hn
  | box ho hx hn => exact .box ho (by rw [hf _ (by rw [ho]; simp [Op.operands])]; exact hx) hn
  | make ho ht hl hc hz hzl hzn hs h0 hb h63 => exact .make ho ht (by rw [hf _ (by rw [ho]; simp [Op.operands])]; exact hl) (by rw [hf _ (by rw [ho]; simp [Op.operands])]; exact hc) hz hzl hzn hs h0 hb h63
  | load ho hx hu ha hs hb hd => exact .load ho (by rw [hf _ (by rw [ho]; simp [Op.operands])]; exact hx) hu ha hs (hh _ (by simp) _ hb) hd
  | loadA ho hx hu ha hs hb hd => exact .loadA ho (by rw [hf _ (by rw [ho]; simp [Op.operands])]; exact hx) hu ha hs (hh _ (by simp) _ hb) hd
  | store ho hx hy hs hn hb hr => exact .store ho (by rw [hf _ (by rw [ho]; simp [Op.operands])]; exact hx) (by rw [hf _ (by rw [ho]; simp [Op.operands])]; exact hy) hs hn (hh _ (by simp) _ hb) hr
  | sliceArr ho ht hs hx hb hn => exact .sliceArr ho ht hs (by rw [hf _ (by rw [ho]; simp [Op.operands])]; exact hx) (hh _ (by simp) _ hb) hn
  | appendNew ho ht hz hzl hx hd0 hy hsrc hn h63 hb => exact .appendNew ho ht hz hzl (by rw [hf _ (by rw [ho]; simp [Op.operands, Call.operands])]; exact hx) hd0 (by rw [hf _ (by rw [ho]; simp [Op.operands, Call.operands])]; exact hy) (hsrc.congr hh) hn h63 hb
  | appendF ho ht hz hzl hx hd0 hy hsrc h63 hb => exact .appendF ho ht hz hzl (by rw [hf _ (by rw [ho]; simp [Op.operands, Call.operands])]; exact hx) hd0 (by rw [hf _ (by rw [ho]; simp [Op.operands, Call.operands])]; exact hy) (hsrc.congr hh) h63 hb
  | appendSame ho ht hx hd0 hy hsrc => exact .appendSame ho ht (by rw [hf _ (by rw [ho]; simp [Op.operands, Call.operands])]; exact hx) hd0 (by rw [hf _ (by rw [ho]; simp [Op.operands, Call.operands])]; exact hy) (hsrc.congr hh)
  | appendMv ho ht hz hzl hx hb hl hy hsrc h63 hby => exact .appendMv ho ht hz hzl (by rw [hf _ (by rw [ho]; simp [Op.operands, Call.operands])]; exact hx) (hh _ (by simp) _ hb) hl (by rw [hf _ (by rw [ho]; simp [Op.operands, Call.operands])]; exact hy) (hsrc.congr fun b hb => hh b (by simp [hb])) h63 hby
  | appendIn ho ht hx hb hy hsrc hc hr => exact .appendIn ho ht (by rw [hf _ (by rw [ho]; simp [Op.operands, Call.operands])]; exact hx) (hh _ (by simp) _ hb) (by rw [hf _ (by rw [ho]; simp [Op.operands, Call.operands])]; exact hy) (hsrc.congr fun b hb => hh b (by simp [hb])) hc hr
  | copy ho ht hx hb hy hsrc hm hr => exact .copy ho ht (by rw [hf _ (by rw [ho]; simp [Op.operands, Call.operands])]; exact hx) (hh _ (by simp) _ hb) (by rw [hf _ (by rw [ho]; simp [Op.operands, Call.operands])]; exact hy) (hsrc.congr fun b hb => hh b (by simp [hb])) hm hr
  | clear ho ht hz hzl hzn hs1 hx hb hr => exact .clear ho ht hz hzl hzn hs1 (by rw [hf _ (by rw [ho]; simp [Op.operands, Call.operands])]; exact hx) (hh _ (by simp) _ hb) hr
  | clear0 ho ht hx => exact .clear0 ho ht (by rw [hf _ (by rw [ho]; simp [Op.operands, Call.operands])]; exact hx)

/-- A step that makes no block goes with every number for a new one; the heap's length stays. -/
theorem HStep.nx {nx : Nat} {d : D} {rd : List Nat} {wr : List (Nat × Option Blk)} (h : HStep P F H nx o d rd wr) (hn : nx ∉ idsOf wr) (nx' : Nat) : HStep P F H nx' o d rd wr ∧ (applyW H wr).length = H.length := by
  cases h with
  | pure h hp => exact ⟨.pure h hp, rfl⟩
  | pickT ho hc ht h => exact ⟨.pickT ho hc ht h, rfl⟩
  | pickF ho hc ht h => exact ⟨.pickF ho hc ht h, rfl⟩
  | loadS ho hx hu ha hd => exact ⟨.loadS ho hx hu ha hd, rfl⟩
  | loadSA ho hx hu ha hs hd => exact ⟨.loadSA ho hx hu ha hs hd, rfl⟩
  | alloc ho hz hn' => simp [idsOf] at hn
  | box ho hx hn' => simp [idsOf] at hn
  | make ho => simp [idsOf] at hn
  | load ho hx hu ha hs hb hd => exact ⟨.load ho hx hu ha hs hb hd, rfl⟩
  | loadA ho hx hu ha hs hb hd => exact ⟨.loadA ho hx hu ha hs hb hd, rfl⟩
  | store ho hx hy hs hn' hb hr => exact ⟨.store ho hx hy hs hn' hb hr, by simp [applyW, putAt, lt_of_getElem? hb]⟩
  | sliceArr ho ht hs hx hb hn' => exact ⟨.sliceArr ho ht hs hx hb hn', rfl⟩
  | appendNew ho => simp [idsOf] at hn
  | appendF ho ht hz hzl hx hd0 hy hsrc h63 hb => exact ⟨.appendF ho ht hz hzl hx hd0 hy hsrc h63 hb, rfl⟩
  | appendSame ho ht hx hd0 hy hsrc => exact ⟨.appendSame ho ht hx hd0 hy hsrc, rfl⟩
  | appendMv ho => simp [idsOf] at hn
  | appendIn ho ht hx hb hy hsrc hc hr => exact ⟨.appendIn ho ht hx hb hy hsrc hc hr, by simp [applyW, putAt, lt_of_getElem? hb]⟩
  | copy ho ht hx hb hy hsrc hm hr => exact ⟨.copy ho ht hx hb hy hsrc hm hr, by simp [applyW, putAt, lt_of_getElem? hb]⟩
  | clear ho ht hz hzl hzn hs1 hx hb hr => exact ⟨.clear ho ht hz hzl hzn hs1 hx hb hr, by simp [applyW, putAt, lt_of_getElem? hb]⟩
  | clear0 ho ht hx => exact ⟨.clear0 ho ht hx, rfl⟩

/-- A new block's number is the heap's length. -/
theorem HStep.newLen {nx : Nat} {d : D} {rd : List Nat} {wr : List (Nat × Option Blk)} (_ : HStep P F H nx o d rd wr) (hn : nx ∈ idsOf wr) : nx < (applyW H wr).length := by
  have key : ∀ (wr : List (Nat × Option Blk)) (H : Hp), nx < H.length → nx < (applyW H wr).length := by
    intro wr
    induction wr with
    | nil => intro H h; exact h
    | cons p wr ih =>
      intro H h
      obtain ⟨b, x⟩ := p
      cases x with
      | none => exact ih _ (by simpa using h)
      | some x => exact ih _ (by have := putAt_length H b x; omega)
  rename_i h
  cases h <;> simp [idsOf] at hn
  case alloc => simp only [applyW]; exact (putAt_length _ _ _).2
  case box => simp only [applyW]; exact (putAt_length _ _ _).2
  case make => simp only [applyW]; exact (putAt_length _ _ _).2
  case store ho hx hy hs hn' hb hr => subst hn; simp only [applyW]; exact (putAt_length _ _ _).2
  case appendNew => simp only [applyW]; exact (putAt_length _ _ _).2
  case appendMv => simp only [applyW]; exact (putAt_length _ _ _).2
  case appendIn => subst hn; simp only [applyW]; exact (putAt_length _ _ _).2
  case copy => subst hn; simp only [applyW]; exact (putAt_length _ _ _).2
  case clear => subst hn; simp only [applyW]; exact (putAt_length _ _ _).2

/-- One step of a region that draws its order, at a state of the order of the text. -/
inductive DStep (P : Program) (all : List Oper) (F : Fr) (H : Hp) (nx : Nat) (o : Oper) : Ent → Prop where
  | skip (hw : Wanted all F o false) : DStep P all F H nx o ⟨.tup [], [], [], none⟩
  | op {d : D} {rd : List Nat} {wr : List (Nat × Option Blk)} (hw : Wanted all F o true) (h : HStep P F H nx o d rd wr) : DStep P all F H nx o ⟨d, rd, wr, none⟩
  | call {fo : Operand} {args : Array Operand} {at_ : Array TypeId} {fv : D} {ds : List D} {d : D} {rd : List Nat} {wr : List (Nat × Option Blk)} (hw : Wanted all F o true) (ho : o.op = .call { callee := .value fo, args, argTypes := at_ }) (hf : F.eval fo = some fv) (ha : evals F args.toList = some ds)
      (hwr : ∀ p ∈ wr, p.1 ∈ rd ∧ p.1 ≠ nx ∧ ∃ x, H[p.1]? = some (some x)) (h : ∀ H', AgH rd H H' → ValTo P fv ds H' fun d' H'' => d' = d ∧ H'' = applyW H' wr) : DStep P all F H nx o ⟨d, rd, wr, none⟩
  | wild {fo : Operand} {args : Array Operand} {at_ : Array TypeId} {fv : D} {ds : List D} {d : D} {H' : Hp} (hw : Wanted all F o true) (ho : o.op = .call { callee := .value fo, args, argTypes := at_ }) (hf : F.eval fo = some fv) (ha : evals F args.toList = some ds)
      (h : ValTo P fv ds H fun d' H'' => d' = d ∧ H'' = H') : DStep P all F H nx o ⟨d, [], [], some H'⟩

theorem Wanted.congr {v : Bool} (h : Wanted all F o v) (hf : AgF (guardTemps all o) F F') : Wanted all F' o v := by
  rcases h with h | ⟨j, want, oj, t, b, hg, ho, ht, hb, hv⟩ | ⟨hv, j, want, oj, t, ds, hg, ho, ht, hb⟩
  · exact .inl h
  · refine .inr (.inl ⟨j, want, oj, t, b, hg, ho, ht, ?_, hv⟩)
    rw [hf t (by simp [guardTemps, hg, ho, ht])]
    exact hb
  · refine .inr (.inr ⟨hv, j, want, oj, t, ds, hg, ho, ht, ?_⟩)
    rw [hf t (by simp [guardTemps, hg, ho, ht])]
    exact hb

theorem DStep.congr {nx : Nat} {e : Ent} (h : DStep P all F H nx o e) (hf : AgF (opTemps o ++ guardTemps all o) F F') (hh : AgH e.rd H H') (hwild : e.wild.isSome = true → H' = H) : DStep P all F' H' nx o e := by
  have h1 : AgF (opTemps o) F F' := fun t ht => hf t (by simp [ht])
  have h2 : AgF (guardTemps all o) F F' := fun t ht => hf t (by simp [ht])
  have h3 := eval_congr h1
  cases h with
  | skip hw => exact .skip (hw.congr h2)
  | op hw h => exact .op (hw.congr h2) (h.congr h3 hh)
  | call hw ho hf' ha hwr h =>
    refine .call (hw.congr h2) ho (by rw [h3 _ (by rw [ho]; simp [Op.operands, Call.operands])]; exact hf') ?_ (fun p hp => ?_) (fun H'' hag => h H'' fun b hb x hx => hag b hb x (hh b hb x hx))
    · rw [evals_congr _ (fun x hx => h3 x (by rw [ho]; simp [Op.operands, Call.operands]; exact .inr (by simpa using hx)))]; exact ha
    · obtain ⟨a, b, x, hx⟩ := hwr p hp
      exact ⟨a, b, x, hh _ a x hx⟩
  | wild hw ho hf' ha h =>
    have := hwild rfl
    subst this
    refine .wild (hw.congr h2) ho (by rw [h3 _ (by rw [ho]; simp [Op.operands, Call.operands])]; exact hf') ?_ h
    rw [evals_congr _ (fun x hx => h3 x (by rw [ho]; simp [Op.operands, Call.operands]; exact .inr (by simpa using hx)))]; exact ha

inductive DrawD (P : Program) (n : Nat) (all : List Oper) : List Oper → Fr → Hp → List Ent → Fr → Hp → Prop where
  | nil {F : Fr} {H : Hp} : DrawD P n all [] F H [] F H
  | cons {o : Oper} {r : List Oper} {F F' : Fr} {H H' : Hp} {e : Ent} {es : List Ent} (h : DStep P all F H H.length o e) (hd : dstOk n o) (hl : H.length ≤ (e.after H).length) (rest : DrawD P n all r (putF F o.dst e.d) (e.after H) es F' H') :
      DrawD P n all (o :: r) F H (e :: es) F' H'

end
end Go.V

/- The logic V, part 20: a region that draws its order comes to what the order of its text comes to. -/
namespace Go.V

def stepF (all : List Oper) (es : List Ent) (F : Fr) (i : Nat) : Fr := match all[i]?, es[i]? with
  | some o, some e => putF F o.dst e.d
  | _, _ => F

def stepH (es : List Ent) (H : Hp) (i : Nat) : Hp := match es[i]? with
  | some e => e.after H
  | none => H

/-- The same blocks. -/
def SameAt (b : Nat) (H H' : Hp) : Prop := ∀ x, H[b]? = some (some x) ↔ H'[b]? = some (some x)

theorem SameAt.refl (b : Nat) (H : Hp) : SameAt b H H := fun _ => Iff.rfl
theorem SameAt.symm {b : Nat} {H H' : Hp} (h : SameAt b H H') : SameAt b H' H := fun x => (h x).symm
theorem SameAt.trans {b : Nat} {H H1 H2 : Hp} (h : SameAt b H H1) (h' : SameAt b H1 H2) : SameAt b H H2 := fun x => (h x).trans (h' x)

theorem same_set {b c : Nat} {H H' : Hp} (h : SameAt b H H') : SameAt b (H.set c none) (H'.set c none) := by
  intro x
  by_cases hc : b = c
  · subst hc
    constructor <;> intro h1 <;> rcases set_mem h1 with ⟨_, h⟩ | ⟨h, _⟩ <;> first | cases h | exact absurd rfl h
  · rw [List.getElem?_set_ne (fun e => hc e.symm), List.getElem?_set_ne (fun e => hc e.symm)]
    exact h x

theorem same_put {b c : Nat} {y : Blk} {H H' : Hp} (h : SameAt b H H') : SameAt b (putAt H c y) (putAt H' c y) := by
  intro x
  by_cases hc : b = c
  · subst hc; rw [putAt_same, putAt_same]
  · rw [putAt_other hc, putAt_other hc]; exact h x

theorem same_applyW {b : Nat} : ∀ (wr : List (Nat × Option Blk)) {H H' : Hp}, SameAt b H H' → SameAt b (applyW H wr) (applyW H' wr)
  | [], _, _, h => h
  | (c, none) :: wr, _, _, h => same_applyW wr (same_set h)
  | (c, some y) :: wr, _, _, h => same_applyW wr (same_put h)

theorem same_not {b : Nat} : ∀ (wr : List (Nat × Option Blk)) {H : Hp}, b ∉ idsOf wr → SameAt b (applyW H wr) H
  | [], _, _ => .refl _ _
  | (c, none) :: wr, H, h => by
    simp only [idsOf, List.map_cons, List.mem_cons, not_or] at h
    refine (same_not wr (by simpa [idsOf] using h.2)).trans fun x => ?_
    rw [List.getElem?_set_ne (fun e => h.1 e.symm)]
  | (c, some y) :: wr, H, h => by
    simp only [idsOf, List.map_cons, List.mem_cons, not_or] at h
    exact (same_not wr (by simpa [idsOf] using h.2)).trans fun x => putAt_other h.1

theorem same_after {b : Nat} {e : Ent} {H H' : Hp} (h : SameAt b H H') : SameAt b (e.after H) (e.after H') := by
  unfold Ent.after
  cases e.wild with
  | some G => exact .refl _ _
  | none => exact same_applyW _ h

theorem same_after_not {b : Nat} {e : Ent} {H : Hp} (h : e.writesB b = false) : SameAt b (e.after H) H := by
  unfold Ent.writesB at h
  rw [Bool.or_eq_false_iff] at h
  unfold Ent.after
  cases hw : e.wild with
  | some G => rw [hw] at h; simp at h
  | none => exact same_not _ (by simpa using h.2)

def pF (all : List Oper) (t i : Nat) : Bool := match all[i]? with
  | some o => o.dst == some t
  | none => false

def pB (es : List Ent) (b i : Nat) : Bool := match es[i]? with
  | some e => e.writesB b
  | none => false

def pW (es : List Ent) (i : Nat) : Bool := match es[i]? with
  | some e => e.writes
  | none => false

theorem get_putF {F : Fr} {dst : Option Nat} {d : D} {t : Nat} : (putF F dst d).get t = if dst = some t then some d else F.get t := by
  cases dst with
  | none => simp [putF]
  | some u =>
    simp only [putF, Fr.get, Option.some.injEq]
    cases hb : Nat.beq u t with
    | true => rw [if_pos (Nat.eq_of_beq_eq_true hb)]; rfl
    | false => rw [if_neg (fun e => by subst e; rw [Nat.beq_refl] at hb; cases hb)]; rfl

section
variable {all : List Oper} {es : List Ent}

theorem get_stF (hlen : es.length = all.length) (F : Fr) (t : Nat) (l : List Nat) : (l.foldl (stepF all es) F).get t = ((l.filter (pF all t)).foldl (stepF all es) F).get t := by
  induction l using snocInd with
  | h0 => rfl
  | h1 l i ih =>
    rw [List.filter_append, List.foldl_append, List.foldl_append]
    simp only [List.foldl_cons, List.foldl_nil, List.filter_cons, List.filter_nil]
    cases ha : all[i]? with
    | none =>
      simp only [pF, ha, stepF, Bool.false_eq_true, if_false, List.foldl_nil]
      exact ih
    | some o =>
      have hi := lt_of_getElem? ha
      have he : es[i]? = some es[i] := List.getElem?_eq_getElem (by omega)
      by_cases hd : o.dst = some t
      · have : pF all t i = true := by simp [pF, ha, hd]
        rw [this]
        simp only [if_true, List.foldl_cons, List.foldl_nil, stepF, ha, he, get_putF, hd]
      · have : pF all t i = false := by simp [pF, ha, hd]
        rw [this]
        simp only [Bool.false_eq_true, if_false, List.foldl_nil, stepF, ha, he, get_putF, hd]
        exact ih

theorem same_stH (H : Hp) (b : Nat) (l : List Nat) : SameAt b (l.foldl (stepH es) H) ((l.filter (pB es b)).foldl (stepH es) H) := by
  induction l using snocInd with
  | h0 => exact .refl _ _
  | h1 l i ih =>
    rw [List.filter_append, List.foldl_append, List.foldl_append]
    simp only [List.foldl_cons, List.foldl_nil, List.filter_cons, List.filter_nil]
    cases he : es[i]? with
    | none =>
      simp only [pB, he, stepH, Bool.false_eq_true, if_false, List.foldl_nil]
      exact ih
    | some e =>
      cases hb : e.writesB b with
      | true =>
        have : pB es b i = true := by simp [pB, he, hb]
        rw [this]
        simp only [if_true, List.foldl_cons, List.foldl_nil, stepH, he]
        exact same_after ih
      | false =>
        have : pB es b i = false := by simp [pB, he, hb]
        rw [this]
        simp only [Bool.false_eq_true, if_false, List.foldl_nil, stepH, he]
        exact (same_after_not hb).trans ih

theorem eq_stH (H : Hp) (l : List Nat) : l.foldl (stepH es) H = (l.filter (pW es)).foldl (stepH es) H := by
  induction l using snocInd with
  | h0 => rfl
  | h1 l i ih =>
    rw [List.filter_append, List.foldl_append, List.foldl_append]
    simp only [List.foldl_cons, List.foldl_nil, List.filter_cons, List.filter_nil]
    cases he : es[i]? with
    | none =>
      simp only [pW, he, stepH, Bool.false_eq_true, if_false, List.foldl_nil]
      exact ih
    | some e =>
      cases hb : e.writes with
      | true =>
        have : pW es i = true := by simp [pW, he, hb]
        rw [this]
        simp only [if_true, List.foldl_cons, List.foldl_nil, stepH, he, ih]
      | false =>
        have : pW es i = false := by simp [pW, he, hb]
        rw [this]
        simp only [Bool.false_eq_true, if_false, List.foldl_nil, stepH, he]
        rw [ih]
        unfold Ent.writes at hb
        rw [Bool.or_eq_false_iff] at hb
        obtain ⟨h1, h2⟩ := hb
        unfold Ent.after
        cases hw : e.wild with
        | some G => rw [hw] at h2; simp at h2
        | none =>
          have : e.wr = [] := by simpa using h1
          rw [this]; rfl

end

def namesOf (all : List Oper) (o : Oper) : List Nat := opTemps o ++ guardTemps all o

def clashT (all : List Oper) (o o' : Oper) : Bool := match o.dst with
  | some t => (namesOf all o').contains t || o'.dst == some t
  | none => false

def clashH (e e' : Ent) : Bool :=
  (idsOf e.wr).any (fun b => e'.rd.contains b || (idsOf e'.wr).contains b) || (e.wild.isSome && e'.touches)

structure DrawOk (all : Array Oper) (es : List Ent) : Prop where
  temps : ∀ i j o o', i < j → all[i]? = some o → all[j]? = some o' → (clashT all.toList o o' || clashT all.toList o' o) = true → aheadB all i j = true
  heap : ∀ i j e e', i < j → es[i]? = some e → es[j]? = some e' → (clashH e e' || clashH e' e) = true → aheadB all i j = true
  wild : (∃ e ∈ es, e.wild.isSome = true) → ∀ i j e e', i < j → es[i]? = some e → es[j]? = some e' → e.writes = true → e'.writes = true → aheadB all i j = true

/-- What the steps in the order of the text are. -/
theorem DrawD.spec {P : Program} {n : Nat} {all : List Oper} {es0 : List Ent} {F0 : Fr} {H0 : Hp} : ∀ {r : List Oper} {F : Fr} {H : Hp} {es : List Ent} {F' : Fr} {H' : Hp}, DrawD P n all r F H es F' H' → ∀ i, all.drop i = r → es0.drop i = es →
    F = (List.range i).foldl (stepF all es0) F0 → H = (List.range i).foldl (stepH es0) H0 →
    es.length = r.length ∧ F' = (List.range (i + r.length)).foldl (stepF all es0) F0 ∧ H' = (List.range (i + r.length)).foldl (stepH es0) H0 ∧
    ∀ j, i ≤ j → j < i + r.length → ∃ o e, all[j]? = some o ∧ es0[j]? = some e ∧ DStep P all ((List.range j).foldl (stepF all es0) F0) ((List.range j).foldl (stepH es0) H0) ((List.range j).foldl (stepH es0) H0).length o e ∧ dstOk n o ∧
      ((List.range j).foldl (stepH es0) H0).length ≤ (e.after ((List.range j).foldl (stepH es0) H0)).length
  | _, F, H, _, _, _, .nil, i, _, _, hF, hH => ⟨rfl, hF, hH, fun j h1 h2 => by simp at h2; omega⟩
  | _, F, H, _, _, _, .cons (o := o) (r := r) (e := e) (es := es) h hd hl rest, i, ho, he, hF, hH => by
    obtain ⟨ho1, ho2⟩ := drop_cons ho
    have he1 : es0[i]? = some e := by
      have : (es0.drop i)[0]? = some e := by rw [he]; rfl
      rwa [List.getElem?_drop, Nat.add_zero] at this
    have he2 : es0.drop (i + 1) = es := by rw [← List.drop_drop, he]; rfl
    have hF' : putF F o.dst e.d = (List.range (i + 1)).foldl (stepF all es0) F0 := by
      rw [List.range_succ, List.foldl_append, ← hF]
      simp [stepF, ho1, he1]
    have hH' : e.after H = (List.range (i + 1)).foldl (stepH es0) H0 := by
      rw [List.range_succ, List.foldl_append, ← hH]
      simp [stepH, he1]
    obtain ⟨l1, l2, l3, l4⟩ := DrawD.spec rest (i + 1) ho2 he2 hF' hH'
    refine ⟨by simp [l1], by rw [l2]; congr 2; simp; omega, by rw [l3]; congr 2; simp; omega, fun j h1 h2 => ?_⟩
    rcases Nat.eq_or_lt_of_le h1 with rfl | h1
    · exact ⟨o, e, ho1, he1, by rw [← hF, ← hH]; exact h, hd, by rw [← hH]; exact hl⟩
    · exact l4 j h1 (by simp at h2; omega)

theorem HRel.same {w : World} {g : Gh} {H H' : Hp} (h : HRel w g H) (hs : ∀ b, SameAt b H H') (hd : ∀ b, H'.length ≤ b → g.ρ b = none) : HRel w g H' :=
  { scell := h.scell
    sL := fun k hk ⟨b, x, base, hb, hr⟩ => h.sL k hk ⟨b, x, base, (hs b x).2 hb, hr⟩
    dom := hd
    blk := fun b cs hb => h.blk b cs ((hs b _).2 hb)
    loop := fun b r F hb => h.loop b r F ((hs b _).2 hb)
    inj := fun b b' k base base' x x' hx hx' => h.inj b b' k base base' x x' ((hs b x).2 hx) ((hs b' x').2 hx') }

theorem Lof_same {g : Gh} {H H' : Hp} (hs : ∀ b, SameAt b H H') : Lof g H = Lof g H' := by
  funext k
  apply propext
  exact ⟨fun ⟨b, x, base, hb, hr⟩ => ⟨b, x, base, (hs b x).1 hb, hr⟩, fun ⟨b, x, base, hb, hr⟩ => ⟨b, x, base, (hs b x).2 hb, hr⟩⟩

theorem applyW_len_ge : ∀ (wr : List (Nat × Option Blk)) (H : Hp), H.length ≤ (applyW H wr).length
  | [], _ => Nat.le_refl _
  | (b, none) :: wr, H => by have := applyW_len_ge wr (H.set b none); simpa [applyW] using this
  | (b, some x) :: wr, H => by
    have h1 := applyW_len_ge wr (putAt H b x)
    have h2 := (putAt_length H b x).1
    simp only [applyW]
    omega

theorem applyW_ids_lt : ∀ (wr : List (Nat × Option Blk)) (H : Hp) (b : Nat) (x : Blk), (b, some x) ∈ wr → b < (applyW H wr).length
  | (c, none) :: wr, H, b, x, h => by
    simp only [List.mem_cons, Prod.mk.injEq, reduceCtorEq, and_false, false_or] at h
    exact applyW_ids_lt wr _ b x h
  | (c, some y) :: wr, H, b, x, h => by
    rcases List.mem_cons.1 h with h | h
    · cases h
      have h1 := applyW_len_ge wr (putAt H c y)
      have h2 := (putAt_length H c y).2
      simp only [applyW]
      omega
    · exact applyW_ids_lt wr _ b x h

theorem applyW_len_le : ∀ (wr : List (Nat × Option Blk)) (H : Hp) (c : Nat), H.length ≤ c → (∀ b x, (b, some x) ∈ wr → b < c) → (applyW H wr).length ≤ c
  | [], _, _, h, _ => h
  | (b, none) :: wr, H, c, h, hb => applyW_len_le wr _ c (by simpa using h) (fun b' x' hm => hb b' x' (List.mem_cons_of_mem _ hm))
  | (b, some x) :: wr, H, c, h, hb => applyW_len_le wr _ c (putAt_length_le h (hb b x (by simp))) (fun b' x' hm => hb b' x' (List.mem_cons_of_mem _ hm))

theorem applyW_len_eq (wr : List (Nat × Option Blk)) : ∀ (H : Hp), (∀ p ∈ wr, p.1 < H.length) → (applyW H wr).length = H.length := by
  induction wr with
  | nil => exact fun _ _ => rfl
  | cons p wr ih =>
    intro H h
    obtain ⟨b, y⟩ := p
    have hb : b < H.length := h (b, y) (by simp)
    cases y with
    | none =>
      have := ih (H.set b none) (fun p hp => by have := h p (by simp [hp]); simpa using this)
      simpa [applyW] using this
    | some x =>
      have hl : (putAt H b x).length = H.length := by simp [putAt, hb]
      have := ih (putAt H b x) (fun p hp => by have := h p (by simp [hp]); omega)
      simpa [applyW, hl] using this

end Go.V

/- The logic V, part 21: the rule for regions that draw their order. -/
namespace Go.V

theorem clash_ww {e e' : Ent} {b : Nat} (h : e.writesB b = true) (h' : e'.writesB b = true) : (clashH e e' || clashH e' e) = true := by
  unfold Ent.writesB at h h'
  rw [Bool.or_eq_true] at h h'
  have t : ∀ {e : Ent}, (e.wild.isSome = true ∨ (idsOf e.wr).contains b = true) → e.touches = true := by
    intro e h
    unfold Ent.touches
    rcases h with h | h
    · simp [h]
    · cases hw : e.wr with
      | nil => rw [hw] at h; simp [idsOf] at h
      | cons a r => simp
  rcases h with h1 | h1
  · simp [clashH, h1, t h']
  · rcases h' with h2 | h2
    · simp [clashH, h2, t (.inr h1)]
    · have : clashH e e' = true := by
        unfold clashH
        rw [Bool.or_eq_true]
        left
        rw [List.any_eq_true]
        exact ⟨b, by simpa using h1, by rw [h2]; simp⟩
      simp [this]

theorem clash_wr {e e' : Ent} {b : Nat} (h : e.writesB b = true) (h' : b ∈ e'.rd) : clashH e e' = true := by
  unfold Ent.writesB at h
  rw [Bool.or_eq_true] at h
  have ht : e'.touches = true := by
    unfold Ent.touches
    cases hr : e'.rd with
    | nil => rw [hr] at h'; cases h'
    | cons a r => simp
  rcases h with h1 | h1
  · simp [clashH, h1, ht]
  · unfold clashH
    rw [Bool.or_eq_true]
    left
    rw [List.any_eq_true]
    refine ⟨b, by simpa using h1, ?_⟩
    have : e'.rd.contains b = true := by simpa using h'
    rw [this]; rfl

theorem clash_wild {e e' : Ent} (h : e.wild.isSome = true) (h' : e'.writes = true) : clashH e e' = true := by
  have ht : e'.touches = true := by
    unfold Ent.writes at h'
    unfold Ent.touches
    rw [Bool.or_eq_true] at h'
    rcases h' with h | h <;> simp [h]
  simp [clashH, h, ht]

theorem pW_spec {es : List Ent} {i : Nat} (h : pW es i = true) : ∃ e, es[i]? = some e ∧ e.writes = true := by
  unfold pW at h
  cases he : es[i]? with
  | none => rw [he] at h; cases h
  | some e => rw [he] at h; exact ⟨e, rfl, h⟩

theorem pB_spec {es : List Ent} {b i : Nat} (h : pB es b i = true) : ∃ e, es[i]? = some e ∧ e.writesB b = true := by
  unfold pB at h
  cases he : es[i]? with
  | none => rw [he] at h; cases h
  | some e => rw [he] at h; exact ⟨e, rfl, h⟩

theorem pF_spec {all : List Oper} {t i : Nat} (h : pF all t i = true) : ∃ o, all[i]? = some o ∧ o.dst = some t := by
  unfold pF at h
  cases he : all[i]? with
  | none => rw [he] at h; cases h
  | some e => rw [he] at h; exact ⟨e, rfl, by simpa using h⟩

section
variable {P : Program} {n N : Nat} {all : Array Oper} {es : List Ent} {F0 F' : Fr} {H0 H' : Hp} {w w' : World} {g g' : Gh} {tm : Array Value} {l l1 l2 : List Nat} {j : Nat}

abbrev stF (all : List Oper) (es : List Ent) (F0 : Fr) (l : List Nat) : Fr := l.foldl (stepF all es) F0
abbrev stH (es : List Ent) (H0 : Hp) (l : List Nat) : Hp := l.foldl (stepH es) H0
abbrev nxAt (es : List Ent) (H0 : Hp) (i : Nat) : Nat := (stH es H0 (List.range i)).length

structure Inv (N n : Nat) (all : Array Oper) (es : List Ent) (F0 : Fr) (H0 : Hp) (c : Nat) (l1 : List Nat) (w : World) (g : Gh) (tm : Array Value) : Prop where
  hrel : HRel w g (stH es H0 l1)
  frel : FRel w g (stF all.toList es F0 l1) tm
  size : tm.size = n
  fresh : ∀ i e, i ∉ l1 → es[i]? = some e → nxAt es H0 i ∈ idsOf e.wr → g.ρ (nxAt es H0 i) = none
  ge : H0.length ≤ (stH es H0 l1).length
  le : (stH es H0 l1).length ≤ c

/-- What the text's order says. -/
structure Txt (P : Program) (n : Nat) (all : Array Oper) (es : List Ent) (F0 : Fr) (H0 : Hp) : Prop where
  len : es.length = all.size
  step : ∀ j, j < all.size → ∃ o e, all[j]? = some o ∧ es[j]? = some e ∧ DStep P all.toList (stF all.toList es F0 (List.range j)) (stH es H0 (List.range j)) (nxAt es H0 j) o e ∧ dstOk n o ∧
      (stH es H0 (List.range j)).length ≤ (e.after (stH es H0 (List.range j))).length

theorem nxAt_succ {e : Ent} (he : es[j]? = some e) : nxAt es H0 (j + 1) = (e.after (stH es H0 (List.range j))).length := by
  simp [nxAt, List.range_succ, List.foldl_append, stepH, he]

theorem Txt.mono (T : Txt P n all es F0 H0) : ∀ (i k : Nat), i ≤ k → k ≤ all.size → nxAt es H0 i ≤ nxAt es H0 k := by
  intro i k hik hk
  induction k with
  | zero => have : i = 0 := by omega
            subst this; exact Nat.le_refl _
  | succ k ih =>
    rcases Nat.eq_or_lt_of_le hik with rfl | h
    · exact Nat.le_refl _
    · obtain ⟨o, e, _, he, _, _, hl⟩ := T.step k (by omega)
      rw [nxAt_succ he]
      exact Nat.le_trans (ih (by omega) (by omega)) hl

theorem DStep.maker {all : List Oper} {F : Fr} {H : Hp} {nx : Nat} {o : Oper} {e : Ent} (h : DStep P all F H nx o e) (hn : nx ∈ idsOf e.wr) : nx < (e.after H).length := by
  cases h with
  | skip => simp [idsOf] at hn
  | op hw h => exact h.newLen hn
  | call hw ho hf ha hwr h =>
    simp only [idsOf, List.mem_map] at hn
    obtain ⟨p, hp, rfl⟩ := hn
    exact absurd rfl (hwr p hp).2.1
  | wild => simp [idsOf] at hn

theorem Txt.maker_lt (T : Txt P n all es F0 H0) {i k : Nat} (hik : i < k) (hk : k ≤ all.size) {e : Ent} (he : es[i]? = some e) (hm : nxAt es H0 i ∈ idsOf e.wr) : nxAt es H0 i < nxAt es H0 k := by
  obtain ⟨o, e', _, he', hs, _, hl⟩ := T.step i (by omega)
  rw [he] at he'; cases he'
  have h1 := hs.maker hm
  have h2 := T.mono (i + 1) k (by omega) hk
  rw [nxAt_succ he] at h2
  omega

theorem DStep.moved (T : Txt P n all es F0 H0) (ok : DrawOk all es) (ho : Order all l) (hl : l = l1 ++ j :: l2) {o : Oper} {e : Ent} (hoj : all[j]? = some o) (hej : es[j]? = some e)
    (h : DStep P all.toList (stF all.toList es F0 (List.range j)) (stH es H0 (List.range j)) (nxAt es H0 j) o e) :
    DStep P all.toList (stF all.toList es F0 l1) (stH es H0 l1) (nxAt es H0 j) o e ∧ (e.wild.isSome = true → stH es H0 l1 = stH es H0 (List.range j)) := by
  have hlen : es.length = all.toList.length := by simpa using T.len
  have hwild : e.wild.isSome = true → stH es H0 l1 = stH es H0 (List.range j) := by
    intro hw
    rw [stH, eq_stH H0 l1, stH, eq_stH H0 (List.range j)]
    rw [filter_before ho (pW es) ?_ hl ?_ ?_]
    · intro i i' h1 h2 p1 p2
      obtain ⟨e1, h3, p1⟩ := pW_spec p1
      obtain ⟨e2, h4, p2⟩ := pW_spec p2
      exact ok.wild ⟨e, List.mem_of_getElem? hej, hw⟩ i i' e1 e2 h1 h3 h4 p1 p2
    · intro i h1 p1
      obtain ⟨e1, h3, p1⟩ := pW_spec p1
      exact ok.heap i j e1 e h1 h3 hej (by rw [clash_wild hw p1]; simp)
    · intro i h1 _ p1
      obtain ⟨e1, h3, p1⟩ := pW_spec p1
      exact ok.heap j i e e1 h1 hej h3 (by rw [clash_wild hw p1]; simp)
  refine ⟨h.congr ?_ ?_ hwild, hwild⟩
  · intro t ht
    have hn : (namesOf all.toList o).contains t = true := by simpa [namesOf] using ht
    rw [stF, get_stF hlen F0 t l1, stF, get_stF hlen F0 t (List.range j), filter_before ho (pF all.toList t) ?_ hl ?_ ?_]
    · intro i i' h1 h2 p1 p2
      obtain ⟨o1, h3, p1⟩ := pF_spec p1
      obtain ⟨o2, h4, p2⟩ := pF_spec p2
      refine ok.temps i i' o1 o2 h1 (by simpa using h3) (by simpa using h4) ?_
      have : clashT all.toList o1 o2 = true := by simp [clashT, p1, p2]
      rw [this]; rfl
    · intro i h1 p1
      obtain ⟨o1, h3, p1⟩ := pF_spec p1
      refine ok.temps i j o1 o h1 (by simpa using h3) hoj ?_
      have : clashT all.toList o1 o = true := by simp only [clashT, p1, hn]; rfl
      rw [this]; rfl
    · intro i h1 _ p1
      obtain ⟨o1, h3, p1⟩ := pF_spec p1
      refine ok.temps j i o o1 h1 hoj (by simpa using h3) ?_
      have : clashT all.toList o1 o = true := by simp only [clashT, p1, hn]; rfl
      rw [this]; simp
  · intro b hb x hx
    rw [same_stH H0 b (List.range j) x] at hx
    rw [same_stH H0 b l1 x, filter_before ho (pB es b) ?_ hl ?_ ?_]
    · exact hx
    · intro i i' h1 h2 p1 p2
      obtain ⟨e1, h3, p1⟩ := pB_spec p1
      obtain ⟨e2, h4, p2⟩ := pB_spec p2
      exact ok.heap i i' e1 e2 h1 h3 h4 (clash_ww p1 p2)
    · intro i h1 p1
      obtain ⟨e1, h3, p1⟩ := pB_spec p1
      exact ok.heap i j e1 e h1 h3 hej (by rw [clash_wr p1 hb]; rfl)
    · intro i h1 _ p1
      obtain ⟨e1, h3, p1⟩ := pB_spec p1
      exact ok.heap j i e e1 h1 hej h3 (by rw [clash_wr p1 hb]; simp)

/-- One step of an order. -/
theorem Inv.step (T : Txt P n all es F0 H0) (ok : DrawOk all es) (ho : Order all l) (hl : l = l1 ++ j :: l2) (hN : N ≤ H0.length) (I : Inv N n all es F0 H0 (nxAt es H0 all.size) l1 w g tm) {K : Array Value → World → Prop}
    (k : ∀ w' g' tm', Inv N n all es F0 H0 (nxAt es H0 all.size) (l1 ++ [j]) w' g' tm' → Ev N w g (Lof g (stH es H0 l1)) w' g' (Lof g' (stH es H0 (l1 ++ [j]))) → OpsTo P all l2 tm' w' K) : OpsTo P all (j :: l2) tm w K := by
  have hjs : j < all.size := (ho.mem j).1 (by rw [hl]; simp)
  have hj1 : j ∉ l1 := by
    have hnd := ho.nodup
    rw [hl] at hnd
    intro hx
    exact (List.nodup_append.1 hnd).2.2 j hx j (by simp) rfl
  obtain ⟨o, e, hoj, hej, hst, hd, hle⟩ := T.step j hjs
  obtain ⟨hst', hwild⟩ := hst.moved T ok ho hl hoj hej
  have hmk := fun hm => T.maker_lt (i := j) (k := all.size) hjs (Nat.le_refl _) hej hm
  have hFs : ∀ d', e.d = d' → stF all.toList es F0 (l1 ++ [j]) = putF (stF all.toList es F0 l1) o.dst d' := by
    rintro _ rfl
    have hoj' : all.toList[j]? = some o := by simpa using hoj
    simp [stF, List.foldl_append, stepF, hoj', hej]
  have hHs : stH es H0 (l1 ++ [j]) = e.after (stH es H0 l1) := by simp [stH, List.foldl_append, stepH, hej]
  have hnext := T.mono (j + 1) all.size (by omega) (Nat.le_refl _)
  rw [nxAt_succ hej] at hnext
  have hNl := I.ge
  cases hst' with
  | skip hw =>
    obtain ⟨hF', hs'⟩ := put_rel I.frel I.size hd (d := .tup []) (v := undef) (.tup rfl (by simp))
    have hHs' : stH es H0 (l1 ++ [j]) = stH es H0 l1 := hHs
    refine .skip hoj (hw.run I.frel) (k w g _ ⟨?_, ?_, hs', fun i e hi => I.fresh i e (fun h => hi (by simp [h])), ?_, ?_⟩ ?_)
    · rw [hHs']; exact I.hrel
    · rw [hFs _ rfl]; exact hF'
    · rw [hHs']; exact I.ge
    · rw [hHs']; exact I.le
    · rw [hHs']; exact .refl _ _ _ _
  | @op d rd wr hw h =>
    have hHs' : stH es H0 (l1 ++ [j]) = applyW (stH es H0 l1) wr := hHs
    have main : ∀ nx, HStep P (stF all.toList es F0 l1) (stH es H0 l1) nx o d rd wr → g.ρ nx = none → N ≤ nx → (∀ i e, i ∉ l1 ++ [j] → es[i]? = some e → nxAt es H0 i ∈ idsOf e.wr → nxAt es H0 i ≠ nx) → OpsTo P all (j :: l2) tm w K := by
      intro nx h hnx hNx hne
      obtain ⟨v, w', g', hrun, hdid, hrep⟩ := h.sound (N := N) I.hrel I.frel hnx hNx
      obtain ⟨hF', hs'⟩ := put_rel (I.frel.keeps hdid.kp) I.size hd hrep
      have k' := k w' g' _ ⟨by rw [hHs']; exact hdid.hrel, by rw [hFs _ rfl]; exact hF', hs', fun i e' hi he hm => by
          rw [hdid.only _ (hne i e' hi he hm)]
          exact I.fresh i e' (fun h => hi (by simp [h])) he hm, by rw [hHs']; have := applyW_len_ge wr (stH es H0 l1); omega, by
          rw [hHs']
          refine applyW_len_le wr _ _ I.le fun b x hb => ?_
          have h1 := applyW_ids_lt wr (stH es H0 (List.range j)) b x hb
          have h2 : (Ent.after ⟨d, rd, wr, none⟩ (stH es H0 (List.range j))).length = (applyW (stH es H0 (List.range j)) wr).length := rfl
          omega⟩ (by rw [hHs']; exact hdid.ev)
      rcases hrun with hrun | ⟨hrun, rfl⟩
      · exact .value hoj (hw.run I.frel) h.noDefer hrun k'
      · exact .unit hoj (hw.run I.frel) h.noDefer hrun k'
    by_cases hn : nxAt es H0 j ∈ idsOf wr
    · refine main _ h (I.fresh j _ hj1 hej hn) (by have := T.mono 0 j (by omega) (by omega); simp [nxAt, stH] at this ⊢; omega) fun i e' hi he hm => ?_
      have hij : i ≠ j := fun e => hi (by simp [e])
      have his : i < all.size := by have := lt_of_getElem? he; have := T.len; omega
      rcases Nat.lt_or_gt_of_ne hij with h1 | h1
      · have := T.maker_lt h1 (by omega) he hm; omega
      · have := T.maker_lt h1 (by omega) hej hn; omega
    · have hbig := I.le
      refine main (nxAt es H0 all.size + N + 1) (h.nx hn _).1 (I.hrel.dom _ (by omega)) (by omega) fun i e' hi he hm => ?_
      have his : i < all.size := by have := lt_of_getElem? he; have := T.len; omega
      have := T.mono i all.size (by omega) (by omega)
      omega
  | @call fo args at_ fv ds d rd wr hw hop hf ha hwr h =>
    have hHs' : stH es H0 (l1 ++ [j]) = applyW (stH es H0 l1) wr := hHs
    have hleq : (applyW (stH es H0 l1) wr).length = (stH es H0 l1).length := applyW_len_eq wr _ fun p hp => by
      obtain ⟨_, _, x, hx⟩ := hwr p hp
      exact lt_of_getElem? hx
    obtain ⟨nx, hrun, hcall⟩ := (h _ (fun _ _ _ h => h)).call hop hf ha I.hrel I.frel
    refine .call hoj (hw.run I.frel) (noDefer_value hop) hrun ?_
    have step : ∀ v w', (∃ d' H'' g', (d' = d ∧ H'' = applyW (stH es H0 l1) wr) ∧ Ev (stH es H0 l1).length w g (Lof g (stH es H0 l1)) w' g' (Lof g' H'') ∧ HRel w' g' H'' ∧ (stH es H0 l1).length ≤ H''.length ∧ Rep w' g' d' v) →
        OpsTo P all l2 (putV tm o.dst v) w' K := by
      rintro v w' ⟨d', H'', g', ⟨rfl, rfl⟩, ev, hH', hl', hrep⟩
      have kp := ev.keeps I.hrel (Nat.le_refl _)
      obtain ⟨hF', hs'⟩ := put_rel (I.frel.keeps kp) I.size hd hrep
      refine k w' g' _ ⟨by rw [hHs']; exact hH', by rw [hFs _ rfl]; exact hF', hs', fun i e' hi he hm => ?_, by rw [hHs', hleq]; exact I.ge, by rw [hHs', hleq]; exact I.le⟩ (by rw [hHs']; exact ev.le (by omega))
      have h0 := I.fresh i e' (fun h => hi (by simp [h])) he hm
      rcases Nat.lt_or_ge (nxAt es H0 i) (stH es H0 l1).length with h1 | h1
      · rw [ev.ρ _ h1]; exact h0
      · exact hH'.dom _ (by omega)
    rcases hcall with ⟨f, a, rfl, hc⟩ | ⟨lp, f, tmps, assign, body, rfl, hc⟩
    · exact .inl ⟨f, a, rfl, hc.mono fun e w' ⟨v, e1, r⟩ => ⟨v, e1, step v w' r⟩⟩
    · exact .inr ⟨lp, f, tmps, assign, body, rfl, fun c cs => let ⟨v, w', r, s⟩ := hc c cs; ⟨v, w', step v w' r, s⟩⟩
  | @wild fo args at_ fv ds d G hw hop hf ha h =>
    have hHs' : stH es H0 (l1 ++ [j]) = G := hHs
    have heq := hwild rfl
    have hGl : nxAt es H0 (j + 1) = G.length := nxAt_succ hej
    have hGge : (stH es H0 l1).length ≤ G.length := by rw [heq]; exact hle
    have hGle : G.length ≤ nxAt es H0 all.size := hnext
    obtain ⟨nx, hrun, hcall⟩ := h.call hop hf ha I.hrel I.frel
    refine .call hoj (hw.run I.frel) (noDefer_value hop) hrun ?_
    have step : ∀ v w', (∃ d' H'' g', (d' = d ∧ H'' = G) ∧ Ev (stH es H0 l1).length w g (Lof g (stH es H0 l1)) w' g' (Lof g' H'') ∧ HRel w' g' H'' ∧ (stH es H0 l1).length ≤ H''.length ∧ Rep w' g' d' v) →
        OpsTo P all l2 (putV tm o.dst v) w' K := by
      rintro v w' ⟨d', H'', g', ⟨rfl, rfl⟩, ev, hH', hl', hrep⟩
      have kp := ev.keeps I.hrel (Nat.le_refl _)
      obtain ⟨hF', hs'⟩ := put_rel (I.frel.keeps kp) I.size hd hrep
      refine k w' g' _ ⟨by rw [hHs']; exact hH', by rw [hFs _ rfl]; exact hF', hs', fun i e' hi he hm => ?_, by rw [hHs']; have := I.ge; omega, by rw [hHs']; exact hGle⟩ (by rw [hHs']; exact ev.le (by omega))
      have his : i < all.size := by have := lt_of_getElem? he; have := T.len; omega
      have hij : i ≠ j := fun e => hi (by simp [e])
      have hwr' : e'.writes = true := by
        unfold Ent.writes
        cases hw2 : e'.wr with
        | nil => rw [hw2] at hm; simp [idsOf] at hm
        | cons a r => simp
      rcases Nat.lt_or_gt_of_ne hij with h1 | h1
      · exfalso
        have hah := ok.heap i j e' _ h1 he hej (by rw [clash_wild (e := ⟨d', [], [], some H''⟩) rfl hwr']; simp)
        exact hi (by simp [ahead_mem ho hah l1 l2 hl])
      · have := T.mono (j + 1) i (by omega) (by omega)
        exact hH'.dom _ (by omega)
    rcases hcall with ⟨f, a, rfl, hc⟩ | ⟨lp, f, tmps, assign, body, rfl, hc⟩
    · exact .inl ⟨f, a, rfl, hc.mono fun e w' ⟨v, e1, r⟩ => ⟨v, e1, step v w' r⟩⟩
    · exact .inr ⟨lp, f, tmps, assign, body, rfl, fun c cs => let ⟨v, w', r, s⟩ := hc c cs; ⟨v, w', step v w' r, s⟩⟩

theorem Inv.run (T : Txt P n all es F0 H0) (ok : DrawOk all es) (ho : Order all l) (hN : N ≤ H0.length) : ∀ (l2 l1 : List Nat) (w : World) (g : Gh) (tm : Array Value), l = l1 ++ l2 → Inv N n all es F0 H0 (nxAt es H0 all.size) l1 w g tm →
    OpsTo P all l2 tm w fun tm' w' => ∃ g', Inv N n all es F0 H0 (nxAt es H0 all.size) l w' g' tm' ∧ Ev N w g (Lof g (stH es H0 l1)) w' g' (Lof g' (stH es H0 l))
  | [], l1, w, g, tm, hl, I => by
    obtain rfl : l = l1 := by simpa using hl
    exact .nil ⟨g, I, .refl _ _ _ _⟩
  | j :: l2, l1, w, g, tm, hl, I =>
    I.step T ok ho hl hN fun w' g' tm' I' ev => (Inv.run T ok ho hN l2 (l1 ++ [j]) w' g' tm' (by simpa using hl) I').mono fun tm2 w2 ⟨g2, I2, ev2⟩ => ⟨g2, I2, ev.trans ev2⟩

theorem W.region_draw {id : Nat} {Q : Post} (hm : P.follows .mixedOrders = true) (hac : acyclic all = true) (hd : DrawD P n all.toList all.toList F0 H0 es F' H') (ok : DrawOk all es) (hq : Q .normal F' H') : W P n N (.region id all true) Q F0 H0 := by
  intro w g tm df hH hF hs hlN
  obtain ⟨s1, s2, s3, s4⟩ := hd.spec (es0 := es) (F0 := F0) (H0 := H0) 0 (by simp) (by simp) rfl rfl
  simp only [Nat.zero_add, Array.length_toList] at s1 s2 s3 s4
  have T : Txt P n all es F0 H0 := ⟨s1, fun j hj => by
    obtain ⟨o, e, h1, h2, h3⟩ := s4 j (Nat.zero_le _) hj
    exact ⟨o, e, by simpa using h1, h2, h3⟩⟩
  refine .region_draw fun t => ?_
  have hord : Order all (Region.schedule (P.follows .mixedOrders) all t) := by
    rw [hm]
    simp only [Region.schedule, Bool.true_or, if_true]
    exact linearise_order hac t
  have gd := drew_rep (w := w) (g := g) hH
  have dd := gd.did (nx := 0) hH N
  have I0 : Inv N n all es F0 H0 (nxAt es H0 all.size) [] { w with drawn := w.drawn + 1 } g tm := by
    refine ⟨dd.hrel, hF.keeps dd.kp, hs, fun i e hi he hm => hH.dom _ ?_, Nat.le_refl _, ?_⟩
    · have := T.mono 0 i (by omega) (by have := lt_of_getElem? he; omega)
      exact this
    · exact T.mono 0 all.size (by omega) (Nat.le_refl _)
  refine (Inv.run T ok hord hlN _ [] _ g tm rfl I0).mono fun tm' w' ⟨g', I, ev⟩ => ?_
  have hlen : es.length = all.toList.length := by simpa using T.len
  have hsame : ∀ b, SameAt b (stH es H0 (Region.schedule (P.follows .mixedOrders) all t)) H' := by
    intro b
    rw [s3]
    refine (same_stH H0 b _).trans ?_
    rw [filter_all hord (pB es b) ?_]
    · exact (same_stH H0 b _).symm
    · intro i i' h1 h2 p1 p2
      obtain ⟨e1, h3, p1⟩ := pB_spec p1
      obtain ⟨e2, h4, p2⟩ := pB_spec p2
      exact ok.heap i i' e1 e2 h1 h3 h4 (clash_ww p1 p2)
  have hH' : nxAt es H0 all.size = H'.length := by rw [s3]
  have hHle := I.le
  refine ⟨F', H', g', hq, .same_df ?_ (I.hrel.same hsame fun b hb => I.hrel.dom b (by omega)) (by rw [← hH']; have := T.mono 0 all.size (by omega) (Nat.le_refl _); simp [nxAt, stH] at this ⊢; omega), ?_, I.size⟩
  · rw [← Lof_same hsame]
    exact dd.ev.trans ev
  · intro u d hu
    rw [s2, get_stF hlen F0 u, ← filter_all hord (pF all.toList u) ?_, ← get_stF hlen F0 u] at hu
    · exact I.frel u d hu
    · intro i i' h1 h2 p1 p2
      obtain ⟨o1, h3, p1⟩ := pF_spec p1
      obtain ⟨o2, h4, p2⟩ := pF_spec p2
      refine ok.temps i i' o1 o2 h1 (by simpa using h3) (by simpa using h4) ?_
      have : clashT all.toList o1 o2 = true := by simp [clashT, p1, p2]
      rw [this]; rfl
end
end Go.V

/- The logic V, part 22: less may be told of a state: values weakened, blocks renumbered, let go, or fixed. -/
namespace Go.V

def WkL (ds ds' : List D) : Prop := ds'.length = ds.length ∧ ∀ (i : Nat) (x y : D), ds[i]? = some x → ds'[i]? = some y → Wk x y

theorem WkL.nil : WkL [] [] := ⟨rfl, by simp⟩
theorem WkL.cons {x y : D} {ds ds' : List D} (h : Wk x y) (t : WkL ds ds') : WkL (x :: ds) (y :: ds') := by
  refine ⟨by simp [t.1], fun i a b ha hb => ?_⟩
  cases i with
  | zero => simp only [List.getElem?_cons_zero, Option.some.injEq] at ha hb; subst ha; subst hb; exact h
  | succ i => exact t.2 i a b (by simpa using ha) (by simpa using hb)

section
variable {P : Program} {w w' : World} {g g' : Gh} {H H' : Hp} {F F' : Fr} {n N : Nat} {ds ds' : List D} {vs : List Value}

theorem RepL.wk (h : RepL w g ds vs) (hw : WkL ds ds') : RepL w g ds' vs := by
  refine ⟨h.1.trans hw.1.symm, fun i y v hy hv => ?_⟩
  obtain ⟨x, hx⟩ := get_both (Nat.le_of_eq hw.1) hy
  exact (h.2 i x v hx hv).wk (hw.2 i x y hx hy)

theorem FnTo.args {f : FuncId} {args args' : List D} {R : D → Hp → Prop} (h : FnTo P f args' H R) (hw : WkL args args') : FnTo P f args H R :=
  ⟨h.1, fun w g vs hH hA => h.2 w g vs hH (hA.wk hw)⟩

theorem PureFn.args {f : FuncId} {args args' : List D} {d : D} (h : PureFn P f args' d) (hw : WkL args args') : PureFn P f args d := fun H => (h H).args hw

/-- A value of a state (the first) as it is told of another: blocks have other numbers there, and the blocks of Z are fixed. -/
inductive Ren (σ Z : List Nat) (H : Hp) : D → D → Prop where
  | wk {d d' : D} (hp : Pure d) (hw : Wk d d') : Ren σ Z H d d'
  | ptr {b b' off : Nat} (h : σ[b']? = some b) : Ren σ Z H (.ptr b off) (.ptr b' off)
  | yield {b b' : Nat} (h : σ[b']? = some b) : Ren σ Z H (.yield b) (.yield b')
  | live {b b' off len c sz : Nat} (h : σ[b']? = some b) : Ren σ Z H (.live b off len c sz) (.live b' off len c sz)
  | fixL {b off len c sz : Nat} {cs ds : List D} (hz : b ∈ Z) (hb : H[b]? = some (some (.cells cs))) (hn : off + len * sz ≤ cs.length) (hd : ds.length = len * sz)
      (h : ∀ (i : Nat) (x y : D), cs[off + i]? = some x → ds[i]? = some y → Ren σ Z H x y) : Ren σ Z H (.live b off len c sz) (.snap ds len false)
  | fixP {b off : Nat} {cs ds : List D} (hz : b ∈ Z) (hb : H[b]? = some (some (.cells cs))) (hd : ds.length ≤ cs.length)
      (h : ∀ (i : Nat) (x y : D), cs[i]? = some x → ds[i]? = some y → Ren σ Z H x y) : Ren σ Z H (.ptr b off) (.sptr ds off)
  | snap {cs cs' : List D} {n : Nat} {t t' : Bool} (hn : cs'.length ≤ cs.length) (ht : t' = true → t = true) (h : ∀ (i : Nat) (x y : D), cs[i]? = some x → cs'[i]? = some y → Ren σ Z H x y) : Ren σ Z H (.snap cs n t) (.snap cs' n t')
  | sptr {cs cs' : List D} {off : Nat} (hn : cs'.length ≤ cs.length) (h : ∀ (i : Nat) (x y : D), cs[i]? = some x → cs'[i]? = some y → Ren σ Z H x y) : Ren σ Z H (.sptr cs off) (.sptr cs' off)
  | iface {t : TypeId} {d d' : D} (h : Ren σ Z H d d') : Ren σ Z H (.iface t d) (.iface t d')
  | fn {f : FuncId} {cs cs' : List D} (hn : cs'.length = cs.length) (h : ∀ (i : Nat) (x y : D), cs[i]? = some x → cs'[i]? = some y → Ren σ Z H x y) : Ren σ Z H (.fn f cs) (.fn f cs')
  | agg {cs cs' : List D} (hn : cs'.length = cs.length) (h : ∀ (i : Nat) (x y : D), cs[i]? = some x → cs'[i]? = some y → Ren σ Z H x y) : Ren σ Z H (.agg cs) (.agg cs')
  | tup {cs cs' : List D} (hn : cs'.length = cs.length) (h : ∀ (i : Nat) (x y : D), cs[i]? = some x → cs'[i]? = some y → Ren σ Z H x y) : Ren σ Z H (.tup cs) (.tup cs')

theorem Ren.one {σ Z : List Nat} {d d' : D} (h : Ren σ Z H d d') : d'.one = d.one := by
  cases h with
  | wk h hw => exact hw.one
  | _ => rfl

def Fixed (g : Gh) (Z : List Nat) (H : Hp) (k : Nat) : Prop := ∃ b ∈ Z, ∃ cs base, H[b]? = some (some (.cells cs)) ∧ g.ρ b = some (k, base)

theorem Rep.ren {σ Z : List Nat} (hH : HRel w g H) (hS : ∀ k, g.S k ∨ Fixed g Z H k → g'.S k) (hσ : ∀ b' b, σ[b']? = some b → g'.ρ b' = g.ρ b) {d d' : D} (hr : Ren σ Z H d d') : ∀ {v}, Rep w g d v → Rep w g' d' v := by
  have nz : ∀ {cs cs' : List D}, cs'.length ≤ cs.length → cs' ≠ [] → cs ≠ [] := fun hn hne e => hne (List.eq_nil_of_length_eq_zero (by rw [e] at hn; simpa using hn))
  induction hr with
  | wk hp hw => exact fun h => (h.ofPure (fun k hk => hS k (.inl hk)) hp).wk hw
  | ptr h =>
    intro v hr
    cases hr with
    | ptr hρ => exact .ptr ((hσ _ _ h).trans hρ)
  | yield h =>
    intro v hr
    cases hr with
    | yield hρ => exact .yield ((hσ _ _ h).trans hρ)
  | live h =>
    intro v hr
    cases hr with
    | live hρ hx hl hc hn => exact .live ((hσ _ _ h).trans hρ) hx hl hc hn
  | @fixL b off len c sz cs ds hz hb hn hd h ih =>
    intro v hr
    cases hr with
    | @live _ _ _ _ _ k base x cap hρ hx hl hc hnn =>
      obtain ⟨k', base', arr, e, hρ', hk, hsz, hone, hcell⟩ := hH.blk b cs hb
      rw [hρ] at hρ'
      obtain ⟨rfl, rfl⟩ : k = k' ∧ base = base' := by simpa using hρ'
      have hcs : ∀ i : Nat, i < ds.length → ∃ xd yd v, cs[off + i]? = some xd ∧ ds[i]? = some yd ∧ arr[base + off + i]? = some v ∧ Rep w g' yd v := by
        intro i hi
        have h1 : off + i < cs.length := by omega
        refine ⟨cs[off + i], ds[i], ?_⟩
        obtain ⟨v, hv, hrv⟩ := hcell (off + i) cs[off + i] (by simp)
        exact ⟨v, by simp, by simp, by rw [Nat.add_assoc]; exact hv, ih i _ _ (by simp) (by simp) hrv⟩
      have h1 : ∀ d ∈ ds, d.one = true := by
        intro d hd'
        obtain ⟨i, hi, rfl⟩ := List.getElem_of_mem hd'
        obtain ⟨xd, yd, v, hx, hy, _⟩ := hcs i hi
        have : ds[i] = yd := by simpa [hi] using hy
        rw [this, (h i xd yd hx hy).one]
        exact hone _ (List.mem_of_getElem? hx)
      refine .snap (fun i => (arr[base + off + i]?).getD default) (fun _ => hS k (.inr ⟨b, hz, cs, base, hb, hρ⟩)) h1 (Nat.le_trans hl hc) (by simp) ?_ ?_
      · intro i hi
        have hcap : cap ≠ 0 := by
          rintro rfl
          have : len = 0 := by omega
          subst this
          simp [hd] at hi
        have hxe : x = base + off := hx.resolve_left hcap
        subst hxe
        obtain ⟨_, _, v, _, _, hv, _⟩ := hcs i hi
        simp [World.cell?, hk, hv]
      · intro i d hd'
        have hi := lt_of_getElem? hd'
        obtain ⟨_, yd, v, _, hy, hv, hr⟩ := hcs i hi
        rw [hd'] at hy
        obtain rfl : d = yd := by simpa using hy
        simpa [hv] using hr
  | @fixP b off cs ds hz hb hd h ih =>
    intro v hr
    cases hr with
    | @ptr _ _ k base hρ =>
      obtain ⟨k', base', arr, e, hρ', hk, hsz, hone, hcell⟩ := hH.blk b cs hb
      rw [hρ] at hρ'
      obtain ⟨rfl, rfl⟩ : k = k' ∧ base = base' := by simpa using hρ'
      refine .sptr (fun i => (arr[base + i]?).getD default) (fun _ => hS k (.inr ⟨b, hz, cs, base, hb, hρ⟩)) (ones_of hd (fun i x y hx hy => (h i x y hx hy).one) hone) ?_ ?_
      · intro i hi
        obtain ⟨v, hv, _⟩ := hcell i cs[i] (by simp)
        simp [World.cell?, hk, hv]
      · intro i y hy
        obtain ⟨x, hx⟩ := get_both hd hy
        obtain ⟨v, hv, hrv⟩ := hcell i x hx
        simpa [hv] using ih i x y hx hy hrv
  | @snap cs cs' n t t' hn ht h ih =>
    intro v hr
    cases hr with
    | snap f hS' h1 hl ht' hc hr =>
      refine .snap f (fun hne => hS _ (.inl (hS' (nz hn hne)))) (ones_of hn (fun i x y hx hy => (h i x y hx hy).one) h1) hl (fun e => ht' (ht e)) (fun i hi => hc i (by omega)) ?_
      intro i y hy
      obtain ⟨x, hx⟩ := get_both hn hy
      exact ih i x y hx hy (hr i x hx)
    | snapNil a t =>
      have : cs' = [] := List.eq_nil_of_length_eq_zero (by simpa using hn)
      subst this
      exact .snapNil _ _
  | @sptr cs cs' off hn h ih =>
    intro v hr
    cases hr with
    | sptr f hS' h1 hc hr =>
      refine .sptr f (fun hne => hS _ (.inl (hS' (nz hn hne)))) (ones_of hn (fun i x y hx hy => (h i x y hx hy).one) h1) (fun i hi => hc i (by omega)) ?_
      intro i y hy
      obtain ⟨x, hx⟩ := get_both hn hy
      exact ih i x y hx hy (hr i x hx)
  | iface h ih =>
    intro v hr
    cases hr with
    | iface hr => exact .iface (ih hr)
  | fn hn h ih =>
    intro v hr
    cases hr with
    | fn hn' hr =>
      refine .fn (hn'.trans hn.symm) fun i y v hy hv => ?_
      obtain ⟨x, hx⟩ := get_both (Nat.le_of_eq hn) hy
      exact ih i x y hx hy (hr i x v hx hv)
  | agg hn h ih =>
    intro v hr
    cases hr with
    | agg hn' h1 hr =>
      refine .agg (hn'.trans hn.symm) (ones_of (Nat.le_of_eq hn) (fun i x y hx hy => (h i x y hx hy).one) h1) fun i y v hy hv => ?_
      obtain ⟨x, hx⟩ := get_both (Nat.le_of_eq hn) hy
      exact ih i x y hx hy (hr i x v hx hv)
  | tup hn h ih =>
    intro v hr
    cases hr with
    | tup hn' hr =>
      refine .tup (hn'.trans hn.symm) fun i y v hy hv => ?_
      obtain ⟨x, hx⟩ := get_both (Nat.le_of_eq hn) hy
      exact ih i x y hx hy (hr i x v hx hv)

/-- F' tells no more than F, but for the numbers of the blocks. -/
def FrRen (σ Z : List Nat) (H : Hp) : Fr → Fr → Prop
  | [], _ => True
  | (t, d') :: F', F => (∃ d, F.get t = some d ∧ Ren σ Z H d d') ∧ FrRen σ Z H F' F

theorem FrRen.get {σ Z : List Nat} : ∀ {F' : Fr}, FrRen σ Z H F' F → ∀ {t d'}, F'.get t = some d' → ∃ d, F.get t = some d ∧ Ren σ Z H d d'
  | [], _, _, _, h => by cases h
  | (u, e) :: F', hr, t, d', h => by
    simp only [Fr.get] at h
    cases hb : Nat.beq u t with
    | true =>
      rw [hb] at h
      simp only [cond_true, Option.some.injEq] at h
      subst h
      obtain rfl := Nat.eq_of_beq_eq_true hb
      exact hr.1
    | false => rw [hb] at h; exact FrRen.get hr.2 h

def BlkRen (σ Z : List Nat) (H : Hp) : Blk → Blk → Prop
  | .cells cs, .cells cs' => cs'.length ≤ cs.length ∧ ∀ (i : Nat) (x y : D), cs[i]? = some x → cs'[i]? = some y → Ren σ Z H x y
  | .loop r F, .loop r' F' => r = r' ∧ FrRen σ Z H F' F
  | _, _ => False

def HpRen (σ Z : List Nat) (H : Hp) : List Nat → Hp → Prop
  | [], [] => True
  | _ :: ss, none :: r => HpRen σ Z H ss r
  | s :: ss, some x' :: r => (s ∉ Z ∧ ∃ x, H[s]? = some (some x) ∧ BlkRen σ Z H x x') ∧ HpRen σ Z H ss r
  | _, _ => False

theorem HpRen.get {σ Z : List Nat} : ∀ {ss : List Nat} {r : Hp}, HpRen σ Z H ss r → ∀ {b : Nat} {x' : Blk}, r[b]? = some (some x') → ∃ s x, ss[b]? = some s ∧ s ∉ Z ∧ H[s]? = some (some x) ∧ BlkRen σ Z H x x'
  | [], [], _, _, _, h => by cases h
  | _ :: ss, none :: r, hr, b, x', h => by
    cases b with
    | zero => cases h
    | succ b => simpa using HpRen.get (ss := ss) hr (by simpa using h)
  | s :: ss, some y :: r, hr, b, x', h => by
    cases b with
    | zero =>
      simp only [List.getElem?_cons_zero, Option.some.injEq] at h
      subst h
      obtain ⟨⟨h1, x, h2, h3⟩, _⟩ := hr
      exact ⟨s, x, rfl, h1, h2, h3⟩
    | succ b => simpa using HpRen.get (ss := ss) hr.2 (by simpa using h)

theorem HpRen.length {σ Z : List Nat} : ∀ {ss : List Nat} {r : Hp}, HpRen σ Z H ss r → ss.length = r.length
  | [], [], _ => rfl
  | _ :: ss, none :: r, hr => by simp [HpRen.length (ss := ss) (r := r) hr]
  | s :: ss, some y :: r, hr => by simp [HpRen.length (ss := ss) (r := r) hr.2]

/-- Less is told. -/
inductive To (N : Nat) (F' : Fr) (H' : Hp) (F : Fr) (H : Hp) : Prop where
  | same (hF : ∀ t d', F'.get t = some d' → ∃ d, F.get t = some d ∧ Wk d d') (hH : H' = H) : To N F' H' F H
  | ren (σ Z : List Nat) (hN : N ≤ H'.length) (hlo : ∀ b, b < N → σ[b]? = some b) (hd : σ.Nodup) (hF : FrRen σ Z H F' F) (hH : HpRen σ Z H σ H') : To N F' H' F H

theorem To.spec (ht : To N F' H' F H) {w : World} {g : Gh} {tm : Array Value} (hH : HRel w g H) (hF : FRel w g F tm) (hl : N ≤ H.length) :
    ∃ g', HRel w g' H' ∧ FRel w g' F' tm ∧ N ≤ H'.length ∧ Ev N w g (Lof g H) w g' (Lof g' H') := by
  cases ht with
  | same hFw hH' =>
    subst hH'
    exact ⟨g, hH, fun t d hd => let ⟨e, h1, h2⟩ := hFw t d hd; let ⟨v, h3, h4⟩ := hF t e h1; ⟨v, h3, h4.wk h2⟩, hl, .refl _ _ _ _⟩
  | ren σ Z hN hlo hnd hFr hHp =>
    have hlen : σ.length = H'.length := hHp.length
    let g' : Gh := { S := fun k => g.S k ∨ Fixed g Z H k, ρ := fun b => match σ[b]? with | some s => g.ρ s | none => none }
    have hσ : ∀ b' b, σ[b']? = some b → g'.ρ b' = g.ρ b := fun b' b h => by simp only [g', h]
    have hrep : ∀ {d d' v}, Ren σ Z H d d' → Rep w g d v → Rep w g' d' v := fun hr hv => hv.ren hH (fun k hk => hk) hσ hr
    have hρ : ∀ b, b < N → g'.ρ b = g.ρ b := fun b hb => hσ b b (hlo b hb)
    have get : ∀ {b : Nat} {x' : Blk}, H'[b]? = some (some x') → ∃ s x, σ[b]? = some s ∧ s ∉ Z ∧ H[s]? = some (some x) ∧ BlkRen σ Z H x x' := fun h => hHp.get h
    have hLof : ∀ k, Lof g' H' k → ∃ (b s : Nat) (x : Blk) (base : Nat), σ[b]? = some s ∧ s ∉ Z ∧ H[s]? = some (some x) ∧ g.ρ s = some (k, base) := by
      rintro k ⟨b, x', base, hb, hr⟩
      obtain ⟨s, x, h1, h2, h3, _⟩ := get hb
      exact ⟨b, s, x, base, h1, h2, h3, by rw [← hσ b s h1]; exact hr⟩
    have hFrame : ∀ {G' G : Fr} {tm : Array Value}, FrRen σ Z H G' G → FRel w g G tm → FRel w g' G' tm := fun hr hF t d hd =>
      let ⟨e, h1, h2⟩ := hr.get hd
      let ⟨v, h3, h4⟩ := hF t e h1
      ⟨v, h3, hrep h2 h4⟩
    have hH2 : HRel w g' H' := by
      refine ⟨?_, ?_, ?_, ?_, ?_, ?_⟩
      · rintro k (hk | ⟨b, hz, cs, base, hb, hr⟩)
        · exact hH.scell k hk
        · obtain ⟨k', base', c, e, hρ', hk, _⟩ := hH.blk b cs hb
          rw [hr] at hρ'
          obtain ⟨rfl, rfl⟩ : k = k' ∧ base = base' := by simpa using hρ'
          exact ⟨c.size, by simp [cellsN, hk]⟩
      · rintro k hk hl
        obtain ⟨b, s, x, base, h1, h2, h3, h4⟩ := hLof k hl
        rcases hk with hk | ⟨b2, hz, cs, base2, hb2, hr2⟩
        · exact hH.sL k hk ⟨s, x, base, h3, h4⟩
        · have := hH.inj b2 s k base2 base _ _ hb2 h3 hr2 h4
          exact h2 (this ▸ hz)
      · intro b hb
        simp only [g']
        rw [List.getElem?_eq_none (by omega)]
      · intro b cs' hb
        obtain ⟨s, x, h1, h2, h3, h4⟩ := get hb
        cases x with
        | loop r F => exact h4.elim
        | cells cs =>
          obtain ⟨k, base, c, e, e1, e2, e3, e4, e5⟩ := hH.blk s cs h3
          refine ⟨k, base, c, e, by rw [hσ b s h1]; exact e1, e2, by have := h4.1; omega, ones_of h4.1 (fun i x y hx hy => (h4.2 i x y hx hy).one) e4, fun i y hy => ?_⟩
          obtain ⟨x, hx⟩ := get_both h4.1 hy
          obtain ⟨v, hv, hr⟩ := e5 i x hx
          exact ⟨v, hv, hrep (h4.2 i x y hx hy) hr⟩
      · intro b r F'' hb
        obtain ⟨s, x, h1, h2, h3, h4⟩ := get hb
        cases x with
        | cells cs => exact h4.elim
        | loop r' F2 =>
          obtain ⟨rfl, h5⟩ := h4
          obtain ⟨k, e1, e2, e3⟩ := hH.loop s _ F2 h3
          exact ⟨k, by rw [hσ b s h1]; exact e1, e2, hFrame h5 e3⟩
      · intro b b' k base base' x x' hx hx' hr hr'
        obtain ⟨s, y, h1, h2, h3, _⟩ := get hx
        obtain ⟨s', y', h1', h2', h3', _⟩ := get hx'
        rw [hσ b s h1] at hr
        rw [hσ b' s' h1'] at hr'
        have := hH.inj s s' k base base' y y' h3 h3' hr hr'
        subst this
        exact (List.getElem?_inj (lt_of_getElem? h1) hnd).1 (h1.trans h1'.symm)
    have ev : Ev N w g (Lof g H) w g' (Lof g' H') := ⟨rfl, rfl, rfl, Nat.le_refl _, fun _ _ _ => rfl, fun _ _ h => h, fun k hk => .inl hk, fun k hk => hk.imp id (fun ⟨b, _, cs, base, hb, hr⟩ => .inl ⟨b, _, base, hb, hr⟩),
      fun k hk => let ⟨_, s, x, base, _, _, h3, h4⟩ := hLof k hk; .inl ⟨s, x, base, h3, h4⟩, hρ⟩
    exact ⟨g', hH2, hFrame hFr hF, hN, ev⟩

theorem W.to {c : Code} {Q : Post} (ht : To N F' H' F H) (h : W P n N c Q F' H') : W P n N c Q F H := by
  intro w g tm df hH hF hs hl
  obtain ⟨g', hH2, hF2, hN, ev⟩ := ht.spec hH hF hl
  refine (h w g' tm df hH2 hF2 hs hN).mono fun e tm' df' w' ⟨F2, H2, g2, q, nx, r⟩ => ⟨F2, H2, g2, q, ?_, r⟩
  exact (Nxt.same_df (df := df) ev hH2 hN).trans nx

theorem W.loopT {c : Code} {Q : Post} {α : Type} (C : α → Prop) (μ : α → Nat) (Fs : α → Fr) (Hs : α → Hp) (a0 : α) (hc : C a0) (h0 : To N (Fs a0) (Hs a0) F H)
    (round : ∀ a, C a → W P n N c (loopQ μ a (fun a F H => C a ∧ To N (Fs a) (Hs a) F H) Q) (Fs a) (Hs a)) : W P n N (.loop c) Q F H := by
  refine .to h0 (.loop μ (fun a F H => C a ∧ To N (Fs a) (Hs a) F H) a0 ⟨hc, .same (fun t d h => ⟨d, h, .refl d⟩) rfl⟩ ?_)
  rintro a F1 H1 ⟨h1, h2⟩
  exact (round a h1).to h2

end
end Go.V

/- The logic V, part 23: the rules by which a region is walked, whether it draws its order or not. -/
namespace Go.V

def FrzL (H : Hp) (ds ds' : List D) : Prop := ds'.length = ds.length ∧ ∀ (i : Nat) (x y : D), ds[i]? = some x → ds'[i]? = some y → Frz H x y

def wantedB (all : List Oper) (F : Fr) (o : Oper) : Option Bool := match o.guard with
  | none => some true
  | some (j, want) => match all[j]? with
    | some oj => match oj.dst with
      | some t => match F.get t with
        | some (.bool b) => some (b == want)
        | some (.tup _) => some false
        | _ => none
      | none => none
    | none => none

theorem wantedB_spec {all : List Oper} {F : Fr} {o : Oper} {v : Bool} (h : wantedB all F o = some v) : Wanted all F o v := by
  unfold wantedB at h
  split at h
  · rename_i hg; cases h; exact .inl ⟨hg, rfl⟩
  · rename_i j want hg
    split at h
    · rename_i oj hoj
      split at h
      · rename_i t ht
        split at h
        · rename_i b hb
          exact .inr (.inl ⟨j, want, oj, t, b, hg, hoj, ht, hb, by simpa using h⟩)
        · rename_i ds hb
          exact .inr (.inr ⟨by simpa using h.symm, j, want, oj, t, ds, hg, hoj, ht, hb⟩)
        · cases h
      · cases h
    · cases h

def dstB (n : Nat) (o : Oper) : Bool := match o.dst with
  | some t => Nat.blt t n
  | none => true

theorem dstB_spec {n : Nat} {o : Oper} (h : dstB n o = true) : dstOk n o := by
  intro t ht
  unfold dstB at h
  rw [ht] at h
  exact Nat.blt_eq ▸ h

def ordPairs (all : List Oper) (ms : List Nat) : Bool := all.zipIdx.all fun (o', j) => all.zipIdx.all fun (o, i) => !(Nat.blt i j && (clashT all o o' || clashT all o' o)) || (ms.getD j 0).testBit i
def tempsOk (all : List Oper) : Bool := ordPairs all (masks all [])

def heapPairs (es : List Ent) (ms : List Nat) : Bool := es.zipIdx.all fun (e', j) => es.zipIdx.all fun (e, i) => !(Nat.blt i j && (clashH e e' || clashH e' e)) || (ms.getD j 0).testBit i
def wildPairs (es : List Ent) (ms : List Nat) : Bool := !(es.any fun e => e.wild.isSome) || es.zipIdx.all fun (e', j) => es.zipIdx.all fun (e, i) => !(Nat.blt i j && (e.writes && e'.writes)) || (ms.getD j 0).testBit i
def heapOk (all : List Oper) (es : List Ent) : Bool := (es.all fun e => !e.writes) || (heapPairs es (masks all []) && wildPairs es (masks all []))

theorem pairs_spec {α : Type} {l : List α} {ms : List Nat} {c : α → α → Bool} (h : (l.zipIdx.all fun (e', j) => l.zipIdx.all fun (e, i) => !(Nat.blt i j && c e e') || (ms.getD j 0).testBit i) = true)
    {i j : Nat} {e e' : α} (hij : i < j) (hi : l[i]? = some e) (hj : l[j]? = some e') (hc : c e e' = true) : (ms.getD j 0).testBit i = true := by
  rw [List.all_eq_true] at h
  have h1 := h (e', j) (by rw [List.mem_zipIdx_iff_getElem?]; simpa using hj)
  simp only [List.all_eq_true] at h1
  have h2 := h1 (e, i) (by rw [List.mem_zipIdx_iff_getElem?]; simpa using hi)
  simp only [hc, Bool.and_true] at h2
  have h3 : Nat.blt i j = true := by rw [Nat.blt_eq]; exact hij
  rw [h3] at h2
  simpa using h2

theorem drawOk_of {all : Array Oper} {es : List Ent} (h1 : tempsOk all.toList = true) (h2 : heapOk all.toList es = true) : DrawOk all es := by
  unfold heapOk at h2
  rw [Bool.or_eq_true] at h2
  refine ⟨fun i j o o' hij hi hj hc => ?_, fun i j e e' hij hi hj hc => ?_, fun hw i j e e' hij hi hj ha hb => ?_⟩
  · exact pairs_spec (c := fun o o' => clashT all.toList o o' || clashT all.toList o' o) h1 hij (by simpa using hi) (by simpa using hj) hc
  · rcases h2 with h2 | h2
    · rw [List.all_eq_true] at h2
      have a := h2 e (List.mem_of_getElem? hi)
      have b := h2 e' (List.mem_of_getElem? hj)
      exfalso
      have key : ∀ {x y : Ent}, (!x.writes) = true → clashH x y = false := by
        intro x y hx
        simp only [Bool.not_eq_true', Ent.writes, Bool.or_eq_false_iff] at hx
        obtain ⟨p, q⟩ := hx
        have : x.wr = [] := by simpa using p
        simp [clashH, this, idsOf, q]
      rw [key a, key b] at hc
      cases hc
    · rw [Bool.and_eq_true] at h2
      exact pairs_spec (c := fun e e' => clashH e e' || clashH e' e) h2.1 hij hi hj hc
  · rcases h2 with h2 | h2
    · rw [List.all_eq_true] at h2
      have a := h2 e (List.mem_of_getElem? hi)
      rw [ha] at a; cases a
    · rw [Bool.and_eq_true] at h2
      have h3 := h2.2
      unfold wildPairs at h3
      rw [Bool.or_eq_true] at h3
      rcases h3 with h3 | h3
      · obtain ⟨e0, h4, h5⟩ := hw
        simp only [Bool.not_eq_true', List.any_eq_false] at h3
        exact absurd h5 (h3 e0 h4)
      · exact pairs_spec (c := fun e e' => e.writes && e'.writes) h3 hij hi hj (by simp [ha, hb])

def DrawK (P : Program) (n : Nat) (all : Array Oper) (r : List Oper) (F : Fr) (H : Hp) (L : List Ent) (K : Fr → Hp → Prop) : Prop :=
  ∃ es F' H', DrawD P n all.toList r F H es F' H' ∧ heapOk all.toList (L.reverse ++ es) = true ∧ K F' H'

/-- A region's operations from 'r' on; 'b' says whether the order is drawn, L is what was done so far. -/
def RK (b : Bool) (P : Program) (n N : Nat) (all : Array Oper) (r : List Oper) (F : Fr) (H : Hp) (L : List Ent) (K : Fr → Hp → Prop) : Prop :=
  match b with
  | false => SeqK P n N all r F H K
  | true => DrawK P n all r F H L K

section
variable {b : Bool} {P : Program} {n N : Nat} {all : Array Oper} {r : List Oper} {F : Fr} {H : Hp} {L : List Ent} {K : Fr → Hp → Prop} {o : Oper} {t : Nat} {Q : Post}

theorem W.reg {id : Nat} (h : RK false P n N all all.toList F H [] (Q .normal)) : W P n N (.region id all false) Q F H := .region_seq h

theorem W.draw {id : Nat} (hm : P.follows .mixedOrders = true) (hac : acyclic all = true) (ht : tempsOk all.toList = true) (h : RK true P n N all all.toList F H [] (Q .normal)) : W P n N (.region id all true) Q F H :=
  let ⟨_, _, _, hd, hh, hk⟩ := h
  .region_draw hm hac hd (drawOk_of ht hh) hk

/-- Nothing was written. -/
def quiet : List Ent → Bool
  | [] => true
  | ⟨_, _, [], none⟩ :: L => quiet L
  | _ => false

theorem quiet_spec : ∀ {L : List Ent}, quiet L = true → ∀ e ∈ L, e.writes = false
  | [], _, _, h => by cases h
  | ⟨d, rd, [], none⟩ :: L, hq, e, h => by
    rcases List.mem_cons.1 h with rfl | h
    · rfl
    · exact quiet_spec (L := L) hq e h
  | ⟨_, _, _ :: _, _⟩ :: _, hq, _, _ => by simp [quiet] at hq
  | ⟨_, _, [], some _⟩ :: _, hq, _, _ => by simp [quiet] at hq

theorem RK.nil (h : K F H) (hL : (bif b then quiet L || heapOk all.toList L.reverse else true) = true) : RK b P n N all [] F H L K := by
  cases b with
  | false => exact SeqK.nil h
  | true =>
    refine ⟨[], F, H, .nil, ?_, h⟩
    rw [List.append_nil]
    simp only [cond_true, Bool.or_eq_true] at hL
    rcases hL with hL | hL
    · unfold heapOk
      rw [Bool.or_eq_true]
      left
      rw [List.all_eq_true]
      intro e he
      rw [quiet_spec hL e (List.mem_reverse.1 he)]
      rfl
    · exact hL

theorem RK.skip (hw : wantedB all.toList F o = some false) (hd : dstB n o = true) (k : RK b P n N all r (putF F o.dst (.tup [])) H (⟨.tup [], [], [], none⟩ :: L) K) : RK b P n N all (o :: r) F H L K := by
  cases b with
  | false => exact SeqK.skip (wantedB_spec hw) (dstB_spec hd) k
  | true =>
    obtain ⟨es, F', H', h1, h2, h3⟩ := k
    exact ⟨_ :: es, F', H', .cons (e := ⟨.tup [], [], [], none⟩) (.skip (wantedB_spec hw)) (dstB_spec hd) (Nat.le_refl _) h1, by simpa using h2, h3⟩

theorem RK.step {d : D} {rd : List Nat} {wr : List (Nat × Option Blk)} (hw : wantedB all.toList F o = some true) (hd : dstB n o = true) (h : HStep P F H H.length o d rd wr)
    (k : RK b P n N all r (putF F o.dst d) (applyW H wr) (⟨d, rd, wr, none⟩ :: L) K) : RK b P n N all (o :: r) F H L K := by
  cases b with
  | false => exact SeqK.step (wantedB_spec hw) h (dstB_spec hd) (applyW_len_ge _ _) k
  | true =>
    obtain ⟨es, F', H', h1, h2, h3⟩ := k
    exact ⟨_ :: es, F', H', .cons (e := ⟨d, rd, wr, none⟩) (.op (wantedB_spec hw) h) (dstB_spec hd) (applyW_len_ge _ _) h1, by simpa using h2, h3⟩

theorem ValTo.mono {fv : D} {ds : List D} {R R' : D → Hp → Prop} (h : ValTo P fv ds H R) (hr : ∀ d H, R d H → R' d H) : ValTo P fv ds H R' := by
  cases fv with
  | fn f caps => exact FnTo.mono h hr
  | yield b =>
    intro w g vs h1 h2
    obtain ⟨k, nx, h3, h4, h5⟩ := h w g vs h1 h2
    refine ⟨k, nx, h3, h4, ?_⟩
    have mo : ∀ v w', (∃ d H' g', R d H' ∧ Ev H.length w g (Lof g H) w' g' (Lof g' H') ∧ HRel w' g' H' ∧ H.length ≤ H'.length ∧ Rep w' g' d v) → ∃ d H' g', R' d H' ∧ Ev H.length w g (Lof g H) w' g' (Lof g' H') ∧ HRel w' g' H' ∧ H.length ≤ H'.length ∧ Rep w' g' d v :=
      fun v w' ⟨d, H', g', a, rest⟩ => ⟨d, H', g', hr _ _ a, rest⟩
    rcases h5 with ⟨f, a, e, hc⟩ | ⟨lp, f, tm, as_, bd, e, hc⟩
    · exact .inl ⟨f, a, e, hc.mono fun e w' ⟨v, e1, r⟩ => ⟨v, e1, mo v w' r⟩⟩
    · exact .inr ⟨lp, f, tm, as_, bd, e, fun c cs => let ⟨v, w', r, s⟩ := hc c cs; ⟨v, w', mo v w' r, s⟩⟩
  | _ => exact h.elim

/-- A call of a function that computes a value and leaves the heap alone. -/
theorem RK.callV {fo : Operand} {args : Array Operand} {at_ : Array TypeId} {fv : D} {ds : List D} {d : D} (hw : wantedB all.toList F o = some true) (hd : dstB n o = true) (ho : o.op = .call { callee := .value fo, args, argTypes := at_ }) (hf : F.eval fo = some fv) (ha : evals F args.toList = some ds)
    (h : ∀ H, ValTo P fv ds H fun d' H' => d' = d ∧ H' = H) (k : RK b P n N all r (putF F o.dst d) H (⟨d, [], [], none⟩ :: L) K) : RK b P n N all (o :: r) F H L K := by
  cases b with
  | false => exact SeqK.call (wantedB_spec hw) ho hf ha (h H) (dstB_spec hd) (fun d' H' ⟨e1, e2⟩ => by subst e1; subst e2; exact k)
  | true =>
    obtain ⟨es, F', H', h1, h2, h3⟩ := k
    exact ⟨_ :: es, F', H', .cons (e := ⟨d, [], [], none⟩) (.call (wantedB_spec hw) ho hf ha (by simp) (fun H' _ => h H')) (dstB_spec hd) (Nat.le_refl _) h1, by simpa using h2, h3⟩

/-- A call of a plain function. -/
theorem RK.call {f : FuncId} {args : Array Operand} {at_ : Array TypeId} {ds : List D} {d : D} (h : PureFn P f ds d) (hw : wantedB all.toList F o = some true) (hd : dstB n o = true) (ho : o.op = .call { callee := .value (.func f), args, argTypes := at_ }) (ha : evals F args.toList = some ds)
    (k : RK b P n N all r (putF F o.dst d) H (⟨d, [], [], none⟩ :: L) K) : RK b P n N all (o :: r) F H L K :=
  .callV hw hd ho rfl ha (fun H => by show FnTo P f (ds ++ []) H _; rw [List.append_nil]; exact h H) k

/-- A call whose arguments are live slices, that only reads them. -/
theorem RK.callB {f : FuncId} {args : Array Operand} {at_ : Array TypeId} {ds ds' : List D} {d : D} (h : PureFn P f ds' d) (hfl : d.flat = true) (hno : ∀ (b : Nat) (r : Loop) (F : Fr), H[b]? ≠ some (some (.loop r F))) (hw : wantedB all.toList F o = some true) (hd : dstB n o = true) (ho : o.op = .call { callee := .value (.func f), args, argTypes := at_ }) (ha : evals F args.toList = some ds)
    (hz : FrzL H ds ds') (k : RK false P n N all r (putF F o.dst d) H [] K) : RK false P n N all (o :: r) F H [] K :=
  SeqK.call (R := fun d' H' => d' = d ∧ H' = H) (wantedB_spec hw) ho rfl ha (by show FnTo P f (ds ++ []) H _; rw [List.append_nil]; exact FnTo.borrow hz hno hfl h) (dstB_spec hd) (fun d' H' ⟨e1, e2⟩ => by subst e1; subst e2; exact k)

/-- A call of anything, in a region that keeps the order of its text. -/
theorem RK.callR {fo : Operand} {args : Array Operand} {at_ : Array TypeId} {fv : D} {ds : List D} {R : D → Hp → Prop} (h : ValTo P fv ds H R) (hw : wantedB all.toList F o = some true) (hd : dstB n o = true) (ho : o.op = .call { callee := .value fo, args, argTypes := at_ }) (hf : F.eval fo = some fv) (ha : evals F args.toList = some ds)
    (k : ∀ d H', R d H' → RK false P n N all r (putF F o.dst d) H' [] K) : RK false P n N all (o :: r) F H L K :=
  SeqK.call (wantedB_spec hw) ho hf ha h (dstB_spec hd) k

/-- An operation that neither reads nor writes live memory. -/
theorem RK.p {pre : Prop} {d : D} (hw : wantedB all.toList F o = some true) (hd : dstB n o = true) (hv : vop P F o.op = some (pre, d)) (hp : pre) (k : RK b P n N all r (putF F o.dst d) H (⟨d, [], [], none⟩ :: L) K) : RK b P n N all (o :: r) F H L K :=
  .step hw hd (.pure hv hp) k

/-- The same, its value written otherwise. -/
theorem RK.pe (d' : D) {pre : Prop} {d : D} (hw : wantedB all.toList F o = some true) (hd : dstB n o = true) (hv : vop P F o.op = some (pre, d)) (hp : pre) (he : d = d') (k : RK b P n N all r (putF F o.dst d') H (⟨d', [], [], none⟩ :: L) K) : RK b P n N all (o :: r) F H L K := by
  subst he
  exact .step hw hd (.pure hv hp) k

/-- The address of a slice's element. -/
theorem RK.ix (j : Nat) {ty e : TypeId} {x i : Operand} {cs : List D} {len s : Nat} {tt : Bool} {kk : IntKind} {m : Int} (hw : wantedB all.toList F o = some true) (hd : dstB n o = true) (ho : o.op = .indexAddr ty x i) (hu : P.underlying ty = some (.slice e)) (hs : tySize P e = some s) (hx : F.eval x = some (.snap cs len tt)) (hi : F.eval i = some (.int kk m))
    (hj : m = (j : Int)) (hlt : j < len) (k : RK b P n N all r (putF F o.dst (.sptr cs (j * s))) H (⟨.sptr cs (j * s), [], [], none⟩ :: L) K) : RK b P n N all (o :: r) F H L K := by
  subst hj
  refine .step hw hd (.pure (pre := 0 ≤ (j : Int) ∧ (j : Int) < len) ?_ ⟨by omega, by omega⟩) k
  rw [ho]
  simp only [vop, hu, hx, hi, hs, Int.toNat_natCast]

/-- A cell that is read. -/
theorem RK.ld (d : D) {ty : TypeId} {x : Operand} {u : TypeDesc} {cs : List D} {off : Nat} (hw : wantedB all.toList F o = some true) (hd : dstB n o = true) (ho : o.op = .load ty x) (hx : F.eval x = some (.sptr cs off)) (hu : P.underlying ty = some u) (ha : isAggB u = false) (hc : cs[off]? = some d)
    (k : RK b P n N all r (putF F o.dst d) H (⟨d, [], [], none⟩ :: L) K) : RK b P n N all (o :: r) F H L K :=
  .step hw hd (.loadS ho hx hu ha hc) k

/-- Cells that are read together. -/
theorem RK.lda (rs : List D) {ty : TypeId} {x : Operand} {u : TypeDesc} {s : Nat} {cs : List D} {off : Nat} (hw : wantedB all.toList F o = some true) (hd : dstB n o = true) (ho : o.op = .load ty x) (hx : F.eval x = some (.sptr cs off)) (hu : P.underlying ty = some u) (ha : isAggB u = true) (hs : tySize P ty = some s) (hc : takeR cs off s = some rs)
    (k : RK b P n N all r (putF F o.dst (.agg rs)) H (⟨.agg rs, [], [], none⟩ :: L) K) : RK b P n N all (o :: r) F H L K :=
  .step hw hd (.loadSA ho hx hu ha hs hc) k

/-- What a flag is, is looked at. -/
theorem RK.split {p : Bool} (h1 : p = true → RK b P n N all r ((t, .bool true) :: F) H L K) (h2 : p = false → RK b P n N all r ((t, .bool false) :: F) H L K) : RK b P n N all r ((t, .bool p) :: F) H L K := by
  cases p with
  | true => exact h1 rfl
  | false => exact h2 rfl

theorem RK.dsplit {p : Prop} {i : Decidable p} (h1 : p → RK b P n N all r ((t, .bool true) :: F) H L K) (h2 : ¬ p → RK b P n N all r ((t, .bool false) :: F) H L K) : RK b P n N all r ((t, .bool (decide p)) :: F) H L K :=
  .split (fun h => h1 (of_decide_eq_true h)) (fun h => h2 (of_decide_eq_false h))

end
end Go.V
