/- The logic V, part 14: the operations that touch the heap: what they give, as rules on the abstract heap. -/
import Derived.Test.YtcnblloiaambaaaV13
namespace Go.V

def applyW (H : Hp) : List (Nat × Option Blk) → Hp
  | [] => H
  | (b, some x) :: r => applyW (putAt H b x) r
  | (b, none) :: r => applyW (H.set b none) r

/-- What a slice that is read gives: its length, its cells. -/
inductive Src (H : Hp) (s : Nat) : D → Nat → List D → List Nat → Prop where
  | snil : Src H s .snil 0 [] []
  | snap {cs : List D} {n : Nat} {t : Bool} (h : cs.length = n * s) : Src H s (.snap cs n t) n cs []
  | live {b off n c : Nat} {cs : List D} (hb : H[b]? = some (some (.cells cs))) (h : off + n * s ≤ cs.length) : Src H s (.live b off n c s) n ((cs.drop off).take (n * s)) [b]

section
variable {P : Program} {w w' : World} {g g' : Gh} {H : Hp} {F : Fr} {tm : Array Value} {N nx : Nat}

theorem src_run (hH : HRel w g H) {s n : Nat} {d : D} {cs : List D} {rd : List Nat} (h : Src H s d n cs rd) {v : Value} (hr : Rep w g d v) :
    ∃ (a : Option Addr) (cap : Nat) (news : List Value), v = .slice a n cap ∧ (Builtin.firstCells s n v).run P w = .ok news.toArray w ∧ RepL w g cs news ∧ news.length = n * s ∧ (∀ d ∈ cs, d.one = true) := by
  cases h with
  | snil =>
    cases hr
    exact ⟨none, 0, [], rfl, by simp [Builtin.firstCells], ⟨rfl, by simp⟩, by simp, by simp⟩
  | snap hl =>
    obtain ⟨a, k, base, cap, f, rfl, ha, hS, h1, hle, ht, hc, hrr⟩ := rep_snap hr
    rcases ha with rfl | ⟨rfl, rfl, rfl⟩
    rotate_left
    · exact ⟨a, 0, [], rfl, by cases a <;> simp [Builtin.firstCells, loadCells, loadCellsFrom], ⟨rfl, by simp⟩, by simp, by simp⟩
    refine ⟨_, cap, (List.range (n * s)).map f, rfl, ?_, ⟨by simp [hl], fun i d v hd hv => ?_⟩, by simp, h1⟩
    · have := run_loadCells_list (P := P) (w := w) ⟨k, base, none⟩ ((List.range (n * s)).map f) (fun j v hj => by
        have hj' : j < n * s := by have := lt_of_getElem? hj; simpa using this
        simp only [List.getElem?_map, List.getElem?_range hj', Option.map_some, Option.some.injEq] at hj
        subst hj
        rw [add_none]
        exact hc j (by omega))
      simp only [List.length_map, List.length_range] at this
      simp only [Builtin.firstCells, this]
    · have hj' : i < n * s := by rw [← hl]; exact lt_of_getElem? hd
      simp only [List.getElem?_map, List.getElem?_range hj', Option.map_some, Option.some.injEq] at hv
      subst hv
      exact hrr i d hd
  | @live b off _ c cs0 hb hle =>
    obtain ⟨k, base, x, cap, rfl, hρ, hx, hl, hc, hn⟩ := rep_live hr
    obtain ⟨k', base', arr, e, hρ', hk, hsz, hone, hcell⟩ := hH.blk b cs0 hb
    rw [hρ] at hρ'
    obtain ⟨rfl, rfl⟩ : k = k' ∧ base = base' := by simpa using hρ'
    have hin : ∀ i, i < n * s → x = base + off ∧ ∃ d v, cs0[off + i]? = some d ∧ arr[base + (off + i)]? = some v ∧ Rep w g d v := by
      intro i hi
      have hc0 : cap ≠ 0 := by rintro rfl; have : n = 0 := by omega
                               subst this; simp at hi
      refine ⟨hx.resolve_left hc0, cs0[off + i], ?_⟩
      obtain ⟨v, hv, hrv⟩ := hcell (off + i) cs0[off + i] (by simp)
      exact ⟨v, by simp, hv, hrv⟩
    refine ⟨_, cap, (List.range (n * s)).map fun i => (arr[base + (off + i)]?).getD default, rfl, ?_, ⟨by simp; omega, fun i d v hd hv => ?_⟩, by simp, fun d hd => hone d (List.mem_of_mem_drop (List.mem_of_mem_take hd))⟩
    · have := run_loadCells_list (P := P) (w := w) ⟨k, x, none⟩ ((List.range (n * s)).map fun i => (arr[base + (off + i)]?).getD default) (fun j v hj => by
        have hj' : j < n * s := by have := lt_of_getElem? hj; simpa using this
        simp only [List.getElem?_map, List.getElem?_range hj', Option.map_some, Option.some.injEq] at hj
        subst hj
        obtain ⟨rfl, d, v, _, hv, _⟩ := hin j hj'
        rw [add_none, Nat.add_assoc]
        simp [World.cell?, hk, hv])
      simp only [List.length_map, List.length_range] at this
      simp only [Builtin.firstCells, this]
    · have hlen := lt_of_getElem? hd
      have hj' : i < n * s := by simp at hlen; omega
      simp only [List.getElem?_map, List.getElem?_range hj', Option.map_some, Option.some.injEq] at hv
      subst hv
      obtain ⟨_, d', v, h1, hv, hrv⟩ := hin i hj'
      rw [List.getElem?_take, if_pos hj', List.getElem?_drop, h1] at hd
      cases hd
      simpa [hv] using hrv

theorem append_fit {t ty e : TypeId} {s n sLen sCap : Nat} {base : Option Addr} {x : Value} {new : List Value} (ht : P.underlying t = some (.slice e)) (hs : tySize P e = some s)
    (hx : ∃ a c, x = .slice a n c) (hnew : (Builtin.firstCells s n x).run P w = .ok new.toArray w) (hfit : sLen + n ≤ sCap) :
    (Builtin.append_ #[t, t] ty #[.slice base sLen sCap, x]).run P w =
      ((match base with | some a => storeCells (a.add (sLen * s)) new | none => pure () : Sem Unit).run P w).andThen fun _ w' => .ok (.slice base (sLen + n) sCap) w' := by
  obtain ⟨a, c, rfl⟩ := hx
  cases base <;> simp [Builtin.append_, underlying_run ht, sizeOf_run P w hs, Builtin.lenOf, hfit, hnew]

theorem append_grow {t ty e : TypeId} {i : TypeInfo} {z : Value} {n sLen sCap : Nat} {base : Option Addr} {x : Value} {old new : List Value} (ht : P.underlying t = some (.slice e)) (hi : P.info? e = some i) (hz : i.zero = some z)
    (hx : ∃ a c, x = .slice a n c) (hnew : (Builtin.firstCells i.size n x).run P w.drew = .ok new.toArray w.drew) (hold : (Builtin.firstCells i.size sLen (.slice base sLen sCap)).run P w.drew = .ok old.toArray w.drew)
    (hg : ¬ sLen + n ≤ sCap) (h63 : sLen + n ≤ 9223372036854775807) (hb : (sLen + n) * i.bytes ≤ 140737488355328) :
    (Builtin.append_ #[t, t] ty #[.slice base sLen sCap, x]).run P w =
      .ok (.slice (some ⟨w.heap.size, 0, none⟩) (sLen + n) (grownCap w (sLen + n) sCap e)) (w.drew.alloc (.cells (old.toArray ++ new.toArray ++ Builtin.zeroCells z.cells (grownCap w (sLen + n) sCap e - (sLen + n))) e)) := by
  obtain ⟨a, c, rfl⟩ := hx
  have hfit := growslice_fits (old := sCap) (need := sLen + n) (bytes := i.bytes) (by omega) hb
  have h63' : ¬ (9223372036854775807 < ((sLen : Int) + (n : Int))) := by omega
  have h48' : ¬ (281474976710656 < Builtin.nextslicecap (sLen + n) sCap * i.bytes) := by omega
  simp [Builtin.append_, underlying_run ht, sizeOf, typeInfo, zeroValue, hi, hz, Builtin.lenOf, hg, h63', h48', Question.forced, hnew, hold, newRow, grownCap]
  congr 2
  apply Array.ext'
  simp [List.append_assoc]

theorem info_of {e : TypeId} {s : Nat} (hs : tySize P e = some s) {z : D} (hz : zeroD P e = some z) : ∃ i v, P.info? e = some i ∧ i.size = s ∧ i.zero = some v ∧ ofVal v = some z := by
  obtain ⟨i, hi, rfl⟩ := tySize_info hs
  unfold zeroD at hz
  rw [hi] at hz
  simp only at hz
  split at hz
  · rename_i v hv
    exact ⟨i, v, hi, rfl, hv, hz⟩
  · cases hz

theorem ofVal_rep {v : Value} {z : D} (h : ofVal v = some z) : Rep w g z v :=
  evalT_of (F := []) (tm := #[]) (x := .const v) (fun t d hd => by cases hd) h

theorem elemOfSlice_spec {t e : TypeId} {s by_ : Nat} (h : elemOfSlice P t = some (e, s, by_)) : P.underlying t = some (.slice e) ∧ tySize P e = some s ∧ ∃ i, P.info? e = some i ∧ i.size = s ∧ i.bytes = by_ := by
  unfold elemOfSlice at h
  split at h
  · rename_i e' hu
    split at h
    · rename_i i hi
      simp only [Option.some.injEq, Prod.mk.injEq] at h
      obtain ⟨rfl, rfl, rfl⟩ := h
      exact ⟨hu, by simp [tySize, hi], i, hi, rfl, rfl⟩
    · cases h
  · cases h

/-- An operation on the abstract heap: the value, the blocks that it reads, what becomes of blocks. 'nx' is the number of a new block. -/
inductive HStep (P : Program) (F : Fr) (H : Hp) (nx : Nat) (o : Oper) : D → List Nat → List (Nat × Option Blk) → Prop where
  | pure {pre : Prop} {d : D} (h : vop P F o.op = some (pre, d)) (hp : pre) : HStep P F H nx o d [] []
  | pickT {c a b : Operand} {t : Bool} {d : D} (ho : o.op = .pick c a b) (hc : F.eval c = some (.bool t)) (ht : t = true) (h : F.eval a = some d) : HStep P F H nx o d [] []
  | pickF {c a b : Operand} {t : Bool} {d : D} (ho : o.op = .pick c a b) (hc : F.eval c = some (.bool t)) (ht : t = false) (h : F.eval b = some d) : HStep P F H nx o d [] []
  | loadS {t : TypeId} {x : Operand} {u : TypeDesc} {cs : List D} {off : Nat} {d : D} (ho : o.op = .load t x) (hx : F.eval x = some (.sptr cs off)) (hu : P.underlying t = some u) (ha : isAggB u = false) (hd : cs[off]? = some d) : HStep P F H nx o d [] []
  | loadSA {t : TypeId} {x : Operand} {u : TypeDesc} {s : Nat} {cs r : List D} {off : Nat} (ho : o.op = .load t x) (hx : F.eval x = some (.sptr cs off)) (hu : P.underlying t = some u) (ha : isAggB u = true) (hs : tySize P t = some s) (hd : takeR cs off s = some r) : HStep P F H nx o (.agg r) [] []
  | alloc {t : TypeId} {z : D} (ho : o.op = .alloc t) (hz : zeroD P t = some z) (hn : z.notTup = true) : HStep P F H nx o (.ptr nx 0) [] [(nx, some (.cells z.cells))]
  | box {t : TypeId} {x : Operand} {d : D} (ho : o.op = .box t x) (hx : F.eval x = some d) (hn : d.notTup = true) : HStep P F H nx o (.ptr nx 0) [] [(nx, some (.cells d.cells))]
  | make {t e : TypeId} {l c : Operand} {k k' : IntKind} {n : Int} {s by_ : Nat} {z : D} (ho : o.op = .makeSlice t l c) (ht : elemOfSlice P t = some (e, s, by_)) (hl : F.eval l = some (.int k n)) (hc : F.eval c = some (.int k' n)) (hz : zeroD P e = some z)
      (hzl : z.cells.length = s) (hzn : z.notTup = true) (hs : 1 ≤ s) (h0 : 0 ≤ n) (hb : n * by_ ≤ 281474976710656) (h63 : n ≤ 9223372036854775807) : HStep P F H nx o (.live nx 0 n.toNat n.toNat s) [] [(nx, some (.cells (repR n.toNat z.cells)))]
  | load {t : TypeId} {x : Operand} {u : TypeDesc} {b off : Nat} {cs : List D} {d : D} (ho : o.op = .load t x) (hx : F.eval x = some (.ptr b off)) (hu : P.underlying t = some u) (ha : isAggB u = false) (hs : (tySize P t).isSome = true) (hb : H[b]? = some (some (.cells cs))) (hd : cs[off]? = some d) : HStep P F H nx o d [b] []
  | loadA {t : TypeId} {x : Operand} {u : TypeDesc} {s b off : Nat} {cs r : List D} (ho : o.op = .load t x) (hx : F.eval x = some (.ptr b off)) (hu : P.underlying t = some u) (ha : isAggB u = true) (hs : tySize P t = some s) (hb : H[b]? = some (some (.cells cs))) (hd : takeR cs off s = some r) : HStep P F H nx o (.agg r) [b] []
  | store {t : TypeId} {x y : Operand} {b off : Nat} {cs r : List D} {d : D} (ho : o.op = .store t x y) (hx : F.eval x = some (.ptr b off)) (hy : F.eval y = some d) (hs : tySize P t = some d.cells.length) (hn : d.notTup = true) (hb : H[b]? = some (some (.cells cs))) (hr : overR cs off d.cells = some r) :
      HStep P F H nx o (.tup []) [b] [(b, some (.cells r))]
  | sliceArr {t e : TypeId} {x : Operand} {n s b off : Nat} {cs : List D} (ho : o.op = .slice t x none none none) (ht : P.underlying t = some (.array n e)) (hs : tySize P e = some s) (hx : F.eval x = some (.ptr b off)) (hb : H[b]? = some (some (.cells cs))) (hn : off + n * s ≤ cs.length) :
      HStep P F H nx o (.live b off n n s) [b] []
  | appendNew {t e : TypeId} {x y : Operand} {s by_ n len : Nat} {d d0 : D} {z : D} {cs cs0 : List D} {rd : List Nat} (ho : o.op = .call { callee := .builtin .append, args := #[x, y], argTypes := #[t, t] }) (ht : elemOfSlice P t = some (e, s, by_)) (hz : zeroD P e = some z) (hzl : z.cells.length = s)
      (hx : F.eval x = some d0) (hd0 : (d0 = .snil ∧ len = 0 ∧ cs0 = []) ∨ (d0 = .snap cs0 len true ∧ cs0.length = len * s)) (hy : F.eval y = some d) (hsrc : Src H s d n cs rd) (hn : 0 < n) (h63 : len + n ≤ 9223372036854775807) (hb : (len + n) * by_ ≤ 140737488355328) :
      HStep P F H nx o (.live nx 0 (len + n) (len + n) s) rd [(nx, some (.cells (cs0 ++ cs)))]
  | appendSame {t e : TypeId} {x y : Operand} {s by_ : Nat} {d d0 : D} {cs : List D} {rd : List Nat} (ho : o.op = .call { callee := .builtin .append, args := #[x, y], argTypes := #[t, t] }) (ht : elemOfSlice P t = some (e, s, by_))
      (hx : F.eval x = some d0) (hd0 : d0 = .snil ∨ ∃ c l t, d0 = .snap c l t) (hy : F.eval y = some d) (hsrc : Src H s d 0 cs rd) : HStep P F H nx o d0 rd []
  | appendMv {t e : TypeId} {x y : Operand} {s by_ n len b off c : Nat} {d : D} {z : D} {cs cs0 : List D} {rd : List Nat} (ho : o.op = .call { callee := .builtin .append, args := #[x, y], argTypes := #[t, t] }) (ht : elemOfSlice P t = some (e, s, by_)) (hz : zeroD P e = some z) (hzl : z.cells.length = s)
      (hx : F.eval x = some (.live b off len c s)) (hb : H[b]? = some (some (.cells cs0))) (hl : off + len * s ≤ cs0.length) (hy : F.eval y = some d) (hsrc : Src H s d n cs rd) (h63 : len + n ≤ 9223372036854775807) (hby : (len + n) * by_ ≤ 140737488355328) :
      HStep P F H nx o (.live nx 0 (len + n) (len + n) s) (b :: rd) [(b, none), (nx, some (.cells ((cs0.drop off).take (len * s) ++ cs)))]
  | appendIn {t e : TypeId} {x y : Operand} {s by_ n len b off c : Nat} {d : D} {cs cs0 r : List D} {rd : List Nat} (ho : o.op = .call { callee := .builtin .append, args := #[x, y], argTypes := #[t, t] }) (ht : elemOfSlice P t = some (e, s, by_))
      (hx : F.eval x = some (.live b off len c s)) (hb : H[b]? = some (some (.cells cs0))) (hy : F.eval y = some d) (hsrc : Src H s d n cs rd) (hc : len + n ≤ c) (hr : overR cs0 (off + len * s) cs = some r) :
      HStep P F H nx o (.live b off (len + n) c s) (b :: rd) [(b, some (.cells r))]
  | copy {t t' e : TypeId} {x y : Operand} {s by_ n m len b off c : Nat} {d : D} {cs cs0 r : List D} {rd : List Nat} (ho : o.op = .call { callee := .builtin .copy, args := #[x, y], argTypes := #[t, t'] }) (ht : elemOfSlice P t = some (e, s, by_))
      (hx : F.eval x = some (.live b off len c s)) (hb : H[b]? = some (some (.cells cs0))) (hy : F.eval y = some d) (hsrc : Src H s d n cs rd) (hm : m = min n len) (hr : overR cs0 off (cs.take (m * s)) = some r) :
      HStep P F H nx o (.int .i64 m) (b :: rd) [(b, some (.cells r))]
  | clear {t e : TypeId} {x : Operand} {s by_ len b off c : Nat} {z : D} {cs0 r : List D} (ho : o.op = .call { callee := .builtin .clear, args := #[x], argTypes := #[t] }) (ht : elemOfSlice P t = some (e, s, by_)) (hz : zeroD P e = some z) (hzl : z.cells.length = s) (hzn : z.notTup = true) (hs1 : 1 ≤ s)
      (hx : F.eval x = some (.live b off len c s)) (hb : H[b]? = some (some (.cells cs0))) (hr : overR cs0 off (repR len z.cells) = some r) :
      HStep P F H nx o (.tup []) [b] [(b, some (.cells r))]
  | clear0 {t : TypeId} {x : Operand} {b off c s : Nat} (ho : o.op = .call { callee := .builtin .clear, args := #[x], argTypes := #[t] }) (ht : (P.underlying t).isSome = true) (hx : F.eval x = some (.live b off 0 c s)) : HStep P F H nx o (.tup []) [] []

/-- What the machine does at such an operation. -/
def Sound (P : Program) (N nx : Nat) (tm : Array Value) (o : Oper) (w : World) (g : Gh) (H : Hp) (d : D) (H' : Hp) : Prop :=
  ∃ v w' g', ((execOp (evalT tm) o).run P w = .ok (.value v) w' ∨ ((execOp (evalT tm) o).run P w = .ok .skip w' ∧ v = undef)) ∧ Did N nx w g H w' g' H' ∧ Rep w' g' d v

theorem Gives.sound {o : Oper} {d : D} (h : Gives P tm o w g d) (hH : HRel w g H) : Sound P N nx tm o w g H d H :=
  let ⟨v, w', g', hr, hg, hrep⟩ := h
  ⟨v, w', g', .inl hr, hg.did hH N, hrep⟩

theorem rep_alloc_cells {cs : List D} {v : Value} {d : D} (hd : d.cells = cs) (hr : Rep w g d v) : RepL w g cs (v.cells.toList.take cs.length) := by
  have h := hr.cells
  rw [hd] at h
  have : v.cells.toList.take cs.length = v.cells.toList := by rw [List.take_of_length_le]; have := h.1; omega
  rw [this]; exact h

theorem sound_alloc {o : Oper} {nx : Nat} (hH : HRel w g H) (hnx : g.ρ nx = none) (hN : N ≤ nx) {t : TypeId} {z : D} (ho : o.op = .alloc t) (hz : zeroD P t = some z) (hn : z.notTup = true) : Sound P N nx tm o w g H (.ptr nx 0) (putAt H nx (.cells z.cells)) := by
  obtain ⟨v, hv, hr⟩ := zeroD_run (P := P) (w := w) (g := g) hz
  refine ⟨.pointer (some ⟨w.heap.size, 0, none⟩), _, _, .inl ?_, did_alloc (c := v.cells) (e := t) hH hnx hN (rep_alloc_cells rfl hr) (hr.cells_one hn), ?_⟩
  · rw [execOp]
    simp only [ho, Instr.alloc, Sem.run_bind, hv, Result.andThen_ok, newVar, newRow, run_newObj, Sem.run_pure]
    rfl
  · exact .ptr (base := 0) (off := 0) Gh.at_same

theorem sound_box {o : Oper} {nx : Nat} (hH : HRel w g H) (hF : FRel w g F tm) (hnx : g.ρ nx = none) (hN : N ≤ nx) {t : TypeId} {x : Operand} {d : D} (ho : o.op = .box t x) (hx : F.eval x = some d) (hn : d.notTup = true) : Sound P N nx tm o w g H (.ptr nx 0) (putAt H nx (.cells d.cells)) := by
  have hr := evalT_of hF hx
  refine ⟨.pointer (some ⟨w.heap.size, 0, none⟩), _, _, .inl ?_, did_alloc (c := (evalT tm x).cells) (e := t) hH hnx hN (rep_alloc_cells rfl hr) (hr.cells_one hn), ?_⟩
  · rw [execOp]
    simp only [ho, Instr.box, Sem.run_bind, newVar, newRow, run_newObj, Result.andThen_ok, Sem.run_pure]
    rfl
  · exact .ptr (base := 0) (off := 0) Gh.at_same

theorem sound_make {o : Oper} {nx : Nat} (hH : HRel w g H) (hF : FRel w g F tm) (hnx : g.ρ nx = none) (hN : N ≤ nx) {t e : TypeId} {l c : Operand} {k k' : IntKind} {n : Int} {s by_ : Nat} {z : D} (ho : o.op = .makeSlice t l c) (ht : elemOfSlice P t = some (e, s, by_)) (hl : F.eval l = some (.int k n)) (hc : F.eval c = some (.int k' n)) (hz : zeroD P e = some z)
      (hzl : z.cells.length = s) (hzn : z.notTup = true) (hs : 1 ≤ s) (h0 : 0 ≤ n) (hb : n * by_ ≤ 281474976710656) (h63 : n ≤ 9223372036854775807) : Sound P N nx tm o w g H (.live nx 0 n.toNat n.toNat s) (putAt H nx (.cells (repR n.toNat z.cells))) := by
  obtain ⟨hu, hsz, i, hi, hi1, hi2⟩ := elemOfSlice_spec ht
  obtain ⟨i', v, hi', _, hv, hov⟩ := info_of hsz hz
  rw [hi] at hi'; cases hi'
  have hr : Rep w g z v := ofVal_rep hov
  have hrun := run_make (P := P) w t e i v hu hi hv k k' n n h0 (by omega) (by rw [hi2, Int.mul_comm]; exact hb) h63
  obtain ⟨hR, hR1⟩ := repR_rep (w := w) (g := g) hr.cells (hr.cells_one hzn) s n.toNat hzl hs
  have hcells : madeCells v.cells (n.toNat * i.size) = (Array.range (n.toNat * s)).map (fun i => v.cells[i % v.cells.size]!) := by rw [hi1]; rfl
  have hlen : (repR n.toNat z.cells).length = n.toNat * s := by have := hR.1; simp at this; omega
  have hc' : RepL w g (repR n.toNat z.cells) ((madeCells v.cells (n.toNat * i.size)).toList.take (repR n.toNat z.cells).length) := by
    rw [hcells, List.take_of_length_le (by simp [hlen])]; exact hR
  refine ⟨.slice (some ⟨w.heap.size, 0, none⟩) n.toNat n.toNat, _, _, .inl ?_, did_alloc (c := madeCells v.cells (n.toNat * i.size)) (e := e) hH hnx hN hc' hR1, ?_⟩
  · rw [execOp]
    simp only [ho, rep_int (evalT_of hF hl), rep_int (evalT_of hF hc), Sem.run_bind, hrun, Result.andThen_ok, Sem.run_pure]
  · refine .live (base := 0) Gh.at_same (.inr rfl) (Nat.le_refl _) (Nat.le_refl _) (.inr ⟨n.toNat * s, ?_, by omega⟩)
    simp only [cellsN, heap_alloc_new w (.cells (madeCells v.cells (n.toNat * i.size)) e)]
    rw [hcells]; simp

theorem sound_store {o : Oper} (hH : HRel w g H) (hF : FRel w g F tm) {t : TypeId} {x y : Operand} {b off : Nat} {cs r : List D} {d : D} (ho : o.op = .store t x y) (hx : F.eval x = some (.ptr b off)) (hy : F.eval y = some d) (hs : tySize P t = some d.cells.length) (hn : d.notTup = true) (hb : H[b]? = some (some (.cells cs))) (hr : overR cs off d.cells = some r) :
    Sound P N nx tm o w g H (.tup []) (H.set b (some (.cells r))) := by
  obtain ⟨k, base, hv, hρ⟩ := rep_ptr (evalT_of hF hx)
  obtain ⟨k', base', arr, e, hρ', hk, hsz, hone, hcell⟩ := hH.blk b cs hb
  rw [hρ] at hρ'
  obtain ⟨rfl, rfl⟩ : k = k' ∧ base = base' := by simpa using hρ'
  have hd := evalT_of hF hy
  have hdc := hd.cells
  have hd1 := hd.cells_one hn
  obtain ⟨o1, o2, o3⟩ := overR_spec cs off d.cells r hr
  have hvl : (evalT tm y).cells.size = d.cells.length := by have := hdc.1; simpa using this
  have hone' : ∀ u ∈ (evalT tm y).cells.toList, u.oneCell' = true := by
    intro u hu
    obtain ⟨i, hi, rfl⟩ := List.getElem_of_mem hu
    have hi' : i < d.cells.length := by have := hdc.1; omega
    have h1 := hdc.2 i d.cells[i] _ (by simp) (List.getElem?_eq_getElem hi)
    have h2 := hd1 d.cells[i] (List.getElem_mem _)
    revert h1 h2
    generalize (evalT tm y).cells.toList[i] = u
    generalize d.cells[i] = dd
    intro h1 h2
    cases h1 <;> first | rfl | (simp [D.one] at h2)
  have hst := run_storeCells_at P k (base + off) e (evalT tm y).cells.toList 0 arr w hk (by simp; omega) hone'
  refine ⟨undef, _, g, .inr ⟨?_, rfl⟩, did_store (c' := (arr.toList.take (base + off + 0) ++ (evalT tm y).cells.toList ++ arr.toList.drop (base + off + 0 + (evalT tm y).cells.toList.length)).toArray) hH hb hρ hk ?_ (by omega) ?_ ?_, .tup rfl (by simp)⟩
  · rw [execOp]
    simp only [ho, hv, Instr.storeAt, Instr.sureAddr, storeVar, Sem.run_bind, Sem.run_pure, Result.andThen_ok, sizeOf_run P w hs]
    rw [if_neg (by simp [hvl])]
    simp only [Sem.run_pure, Result.andThen_ok, hst]
  · simp; omega
  · intro x hx'
    obtain ⟨j, hj, rfl⟩ := List.getElem_of_mem hx'
    have h3 := o3 j
    rw [List.getElem?_eq_getElem hj] at h3
    split at h3
    · exact hd1 _ (List.mem_of_getElem? h3.symm)
    · exact hone _ (List.mem_of_getElem? h3.symm)
  · intro i x hx'
    have h3 := o3 i
    rw [hx'] at h3
    have hi : i < cs.length := by rw [← o1]; exact lt_of_getElem? hx'
    simp only [Nat.add_zero, List.getElem?_toArray]
    split at h3
    · rename_i hc
      have hi' : i - off < (evalT tm y).cells.size := by omega
      refine ⟨(evalT tm y).cells[i - off], ?_, hdc.2 _ x _ h3.symm (by simp [hi'])⟩
      rw [List.append_assoc, List.getElem?_append_right (by simp; omega), List.getElem?_append_left (by simp; omega)]
      simp only [List.length_take, Array.length_toList]
      rw [show base + i - min (base + off) arr.size = i - off by omega]
      simp [hi']
    · rename_i hc
      obtain ⟨v, hv', hrv⟩ := hcell i x h3.symm
      refine ⟨v, ?_, hrv⟩
      rcases Nat.lt_or_ge i off with h | h
      · rw [List.append_assoc, List.getElem?_append_left (by simp; omega), List.getElem?_take, if_pos (by omega)]
        simpa using hv'
      · rw [List.getElem?_append_right (by simp; omega), List.getElem?_drop]
        simp only [List.length_append, List.length_take, Array.length_toList]
        rw [show base + off + (evalT tm y).cells.size + (base + i - (min (base + off) arr.size + (evalT tm y).cells.size)) = base + i by omega]
        simpa using hv'
end
end Go.V
