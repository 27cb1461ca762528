/- make, append(nil, make(..)...), an empty literal; what a slice owns, shortened. -/
import Derived.Test.YtkoakmaihcheaacDoorGLo
namespace Go.GL
open Go
section
variable {G : Ctx} {N : Nat} {env : Env} {L : List Assn} {k : Kont} {ops : Array Oper} {rest : List Oper} {o : Oper}
/-- A guard that was passed over itself. -/
theorem WL.guardU {j t d : Nat} {want : Bool} {oj : Oper} (hg : o.guard = some (j, want)) (hj : ops[j]? = some oj) (ht : oj.dst = some t) (hq : Env.get env t = some (.val (.tuple #[]))) (hd : o.dst = some d) (hN : Nat.blt d N = true) (h : WL G N ops rest ((d, .val undef) :: env) L k) : WL G N ops (o :: rest) env L k := .mk fun a w ha hs => by
  have hw : Region.wanted o (yielded ops a.tmps) = false := by
    have := ha.at_ _ _ hq
    simp only [Slot.fits] at this
    simp only [Region.wanted, hg, yielded, hj, ht, Option.bind_some, this]
    rfl
  unfold wpList
  rw [hw, if_neg (by simp), hd]
  exact h _ w (ha.put hN _) hs
end
section
variable {G : Ctx} {N : Nat} {env : Env} {L : List Assn} {o : Oper} {post : Env → List Assn → Prop} {d : Nat}
theorem OP.newS {n : Nat} {c : List Value} {e size : Nat} (hc : c.length = n * size) (hr : ∀ a w, Agree N env a → Sat L w → ∃ w', (execOp a.eval o).run G.P w = .ok (.value (.slice (some ⟨w.heap.size, 0, none⟩) n n)) w' ∧ w'.os = w.os ∧ w'.output = w.output ∧ w'.heap = w.heap.push (.cells c.toArray e))
    (hd : o.dst = some d) (hN : Nat.blt d N = true) (h : ∀ b, post ((d, .val (.slice (some ⟨b, 0, none⟩) n n)) :: env) (ownS (some ⟨b, 0, none⟩) n n e size c :: L)) : OP G N o env L post := .mk fun a w ha hs => by
  unfold Oper.wp
  obtain ⟨w', r, h1, h2, h3⟩ := hr a w ha hs
  rw [r]
  simp only [Oper.upon, hd]
  have hs' : Sat (blk w.heap.size c e :: L) w' := by
    have := hs.new c e
    unfold Sat at *
    rw [hpOf_heap (w := { w with heap := w.heap.push (.cells c.toArray e) }) h3 h1 h2]
    exact this
  exact ⟨_, _, ha.put hN _, stars_head_mono (fun k hk => ⟨hc, Nat.le_refl _, .inr ⟨_, [], [], rfl, by simp [hc], by simpa using hk⟩⟩) hs', h _⟩
/-- make([]T, n) -/
theorem OP.makeS {t e : TypeId} {tsl ti : TI} {x y : Operand} {n : Int} {z : List Value} {sz by_ : Nat} (ho : o.op = .makeSlice t x y) (hx : rd none env x = some (none, .int .i64 n)) (hy : rd none env y = some (none, .int .i64 n))
    (ht : G.T.find t = some tsl) (htd : tsl.desc = .slice e) (hte : G.T.find e = some ti) (hsz : szL ti = some (sz, by_)) (hz : zeroL ti = some z) (h0 : 0 ≤ n) (hb : n * by_ ≤ 140737488355328) (hmax : n ≤ 9223372036854775807)
    (hd : o.dst = some d) (hN : Nat.blt d N = true) (h : ∀ b, post ((d, .val (.slice (some ⟨b, 0, none⟩) n.toNat n.toNat)) :: env) (ownS (some ⟨b, 0, none⟩) n.toNat n.toNat e sz (repL z n.toNat) :: L)) : OP G N o env L post := by
  obtain ⟨e1, e2⟩ := szL_eq hsz
  have hz' := zeroL_eq hz
  have eE := Tab.find_ok G.ok hte
  have hzl : z.length = sz := by rw [← hz', eE.zero, e1]
  refine OP.newS (c := repL z n.toNat) (size := sz) (by rw [repL_length, hzl]) (fun a w ha _ => ?_) hd hN h
  have hu : G.P.underlying t = some (.slice e) := htd ▸ (Tab.find_ok G.ok ht).desc
  obtain ⟨x', hx', hinfo, hxs, hxb, hxz, _⟩ := run_info eE w
  have hw : IntKind.i64.wrap n = n := wrap_fit (k := .i64) (by unfold Fit; omega)
  have hbig : ¬ ((x'.bytes : Int) * n > 2 ^ 48) := by rw [hxb, e2, Int.mul_comm]; omega
  have hroom : ¬ (n.toNat * x'.bytes > roomBytes) := by
    have : ((n.toNat * x'.bytes : Nat) : Int) = n * by_ := by
      rw [Int.natCast_mul, Int.toNat_of_nonneg h0, hxb, e2]
    unfold roomBytes
    omega
  have hzc : (zeroOf ti).cells = ti.zero.toArray := eE.zcells
  have hrep := rep_eq (zeroOf ti).cells n.toNat
  have hzs : (zeroOf ti).cells.size = ti.size := by rw [hzc]; simp [eE.zero]
  rw [hzs, hzc] at hrep
  simp only [hz'] at hrep
  have hlt : ¬ n < 0 := by omega
  refine ⟨{ w with heap := w.heap.push (.cells (repL z n.toNat).toArray e) }, ?_, rfl, rfl, rfl⟩
  rw [execOp, ho]
  refine val_run' ?_
  have hbig' : ¬ (281474976710656 < (x'.bytes : Int) * n) := by simpa using hbig
  have hroom' : ¬ roomBytes < n.toNat * x'.bytes := hroom
  by_cases hzero : n.toNat * ti.size = 0
  · have hnil : repL z n.toNat = [] := List.length_eq_zero_iff.1 (by rw [repL_length, hzl, ← e1]; exact hzero)
    simp [Instr.makeSlice, run_underlying hu, rd_plain hx ha, rd_plain hy ha, asInt, asIntOf, hinfo, hw, hlt, hbig', askRoom, run_size eE, hzero, hnil, newRow]
    have : (Array.map (fun _ => (default : Value)) (Array.range 0)) = #[] := by apply Array.ext'; simp
    rw [this]
  · simp [Instr.makeSlice, run_underlying hu, rd_plain hx ha, rd_plain hy ha, asInt, asIntOf, hinfo, hw, hlt, hbig', askRoom, run_size eE, hzero, run_zero eE, hzc, hz', newRow]
    rw [← hrep]
    congr 2
    congr 1
    funext i
    rw [hzl, ← e1]
    simp
/-- append(nil, make([]T, n)...) -/
theorem OP.appendZ {t t2 e : TypeId} {tsl ti ti2 : TI} {x y : Operand} {n : Int} {z : List Value} {sz by_ : Nat} {k2 : IntKind} (ho : o.op = .call ⟨.builtin .append, #[x, y], #[t, t2]⟩) (hx : rd none env x = some (none, .slice none 0 0)) (hy : rd none env y = some (none, .int .i64 n))
    (ht : G.T.find t = some tsl) (htd : tsl.desc = .slice e) (hte : G.T.find e = some ti) (hsz : szL ti = some (sz, by_)) (hz : zeroL ti = some z) (ht2 : G.T.find t2 = some ti2) (ht2d : ti2.desc = .int k2) (h0 : 0 < n) (hs1 : 0 < sz) (hb : n * by_ ≤ 70368744177664) (hmax : n ≤ 9223372036854775807)
    (hd : o.dst = some d) (hN : Nat.blt d N = true) (h : ∀ b cap, n.toNat ≤ cap → post ((d, .val (.slice (some ⟨b, 0, none⟩) n.toNat cap)) :: env) (ownS (some ⟨b, 0, none⟩) n.toNat cap e sz (repL z n.toNat) :: L)) : OP G N o env L post := .mk fun a w ha hs => by
  obtain ⟨e1, e2⟩ := szL_eq hsz
  have hz' := zeroL_eq hz
  have eE := Tab.find_ok G.ok hte
  have hzl : z.length = sz := by rw [← hz', eE.zero, e1]
  have hu : G.P.underlying t = some (.slice e) := htd ▸ (Tab.find_ok G.ok ht).desc
  have hu2 : G.P.underlying t2 = some (.int k2) := ht2d ▸ (Tab.find_ok G.ok ht2).desc
  obtain ⟨x', hx', hinfo, hxs, hxb, hxz, _⟩ := run_info eE w
  have hinfo' : ∀ w', (typeInfo e).run G.P w' = .ok x' w' := fun w' => by obtain ⟨x2, hx2, h', _⟩ := run_info eE w'; rw [hx'] at hx2; cases hx2; exact h'
  have hw : IntKind.i64.wrap n = n := wrap_fit (k := .i64) (by unfold Fit; omega)
  have hlt : ¬ n < 0 := by omega
  have hbig : ¬ (281474976710656 < n * (x'.bytes : Int)) := by rw [hxb, e2]; omega
  obtain ⟨m, rfl⟩ : ∃ m : Nat, n = m := ⟨n.toNat, by omega⟩
  have hm : 0 < m := by omega
  have hcapb : ¬ (281474976710656 < Builtin.nextslicecap m 0 * x'.bytes) := by
    have h1 := nextcap_le m 0 hm
    have h2 : Builtin.nextslicecap m 0 * x'.bytes ≤ 2 * m * x'.bytes := Nat.mul_le_mul_right _ h1
    have h3 : (m : Int) * by_ ≤ 70368744177664 := hb
    have h4 : m * x'.bytes ≤ 70368744177664 := by
      rw [hxb, e2]
      have : ((m * by_ : Nat) : Int) = (m : Int) * by_ := Int.natCast_mul m by_
      omega
    rw [Nat.mul_assoc] at h2
    omega
  have hfo : (Question.appendCap m 0 e).forced = false := rfl
  obtain ⟨cap, hcap, hge⟩ : ∃ cap, (Question.appendCap m 0 e).cut (w.tape w.drawn (Question.appendCap m 0 e)) = cap ∧ m ≤ cap := ⟨_, rfl, by simp only [Question.cut]; omega⟩
  have hzc : (zeroOf ti).cells = ti.zero.toArray := eE.zcells
  have hzero : ¬ (m * ti.size = 0) := by
    have : 0 < m * ti.size := Nat.mul_pos hm (by omega)
    omega
  have hs1 : Sat L w.drew := hs
  have hnew := Sat.new hs1 ((Builtin.zeroCells (zeroOf ti).cells m).toList ++ (Builtin.zeroCells (zeroOf ti).cells (cap - m)).toList) e
  unfold Oper.wp
  have hmi : ¬ (9223372036854775807 < (m : Int)) := by omega
  have hfc : ∀ w', (Builtin.firstCells ti.size 0 (.slice none 0 0)).run G.P w' = .ok #[] w' := fun w' => by simp [Builtin.firstCells]
  have hr : (execOp a.eval o).run G.P w = .ok (.value (.slice (some ⟨w.heap.size, 0, none⟩) m cap)) { w.drew with heap := w.heap.push (.cells ((Builtin.zeroCells (zeroOf ti).cells m).toList ++ (Builtin.zeroCells (zeroOf ti).cells (cap - m)).toList).toArray e) } := by
    rw [execOp, ho]
    have hm0 : ¬ m = 0 := by omega
    simp [resolve, invoke, builtin, rd_plain hx ha, rd_plain hy ha, Builtin.append_, run_underlying hu, run_underlying hu2, run_size eE, asInt, asIntOf, hw, hlt, hinfo', hbig, hm0, hmi, hcapb, hfo, hcap, hfc, hzero, run_zero eE, newRow]
    have earr : (Builtin.zeroCells (zeroOf ti).cells m ++ Builtin.zeroCells (zeroOf ti).cells (cap - m)) = ((Builtin.zeroCells (zeroOf ti).cells m).toList ++ (Builtin.zeroCells (zeroOf ti).cells (cap - m)).toList).toArray := by
      apply Array.ext'; simp
    rw [earr]
    rfl
  rw [hr]
  simp only [Oper.upon, hd]
  have hrep : ∀ k, (Builtin.zeroCells (zeroOf ti).cells k).toList = repL z k := fun k => by
    unfold Builtin.zeroCells
    rw [rep_eq, hzc, hz']
  rw [hrep, hrep] at *
  have h := h w.heap.size cap hge
  rw [Int.toNat_natCast] at h
  refine ⟨_, _, ha.put hN _, stars_head_mono (fun k hk => ⟨by rw [repL_length, hzl], hge, .inr ⟨_, [], repL z (cap - m), rfl, ?_, by simpa using hk⟩⟩) hnew, h⟩
  rw [repL_length, repL_length, hzl, ← Nat.add_mul]
  exact Nat.mul_le_mul_right _ (by omega)
/-- cap(s) -/
theorem OP.capS {t e : TypeId} {tsl : TI} {x : Operand} {a : Option Addr} {n c : Nat} (ho : o.op = .call ⟨.builtin .cap, #[x], #[t]⟩) (hx : rd none env x = some (none, .slice a n c)) (ht : G.T.find t = some tsl) (htd : tsl.desc = .slice e)
    (hd : o.dst = some d) (hN : Nat.blt d N = true) (h : post ((d, .val (.int .i64 c)) :: env) L) : OP G N o env L post :=
  .run (fun ac w ha _ => by
    have hu : G.P.underlying t = some (.slice e) := htd ▸ (Tab.find_ok G.ok ht).desc
    rw [execOp, ho]
    simp [resolve, invoke, builtin, rd_plain hx ha, Builtin.cap_, run_underlying hu, goInt]) hd hN h
/-- []T without elements -/
theorem OP.lit0 {t e : TypeId} {tsl ti : TI} {size : Nat} (ho : o.op = .buildSlice t 0 #[]) (ht : G.T.find t = some tsl) (htd : tsl.desc = .slice e) (hte : G.T.find e = some ti)
    (hd : o.dst = some d) (hN : Nat.blt d N = true) (h : ∀ b, post ((d, .val (.slice (some ⟨b, 0, none⟩) 0 0)) :: env) (ownS (some ⟨b, 0, none⟩) 0 0 e size [] :: L)) : OP G N o env L post := by
  have eE := Tab.find_ok G.ok hte
  refine OP.newS (c := []) (size := size) (by simp) (fun a w ha _ => ?_) hd hN h
  have hu : G.P.underlying t = some (.slice e) := htd ▸ (Tab.find_ok G.ok ht).desc
  refine ⟨{ w with heap := w.heap.push (.cells #[] e) }, ?_, rfl, rfl, rfl⟩
  rw [execOp, ho]
  refine val_run' ?_
  have : (Array.map (fun _ => (default : Value)) (Array.range 0)) = #[] := by apply Array.ext'; simp
  simp [Instr.buildSlice, run_underlying hu, run_size eE, Instr.fill, newRow, this]
/-- what a slice owns, cut at its end: the rest becomes room -/
theorem ownS_take {a : Option Addr} {n cap m size : Nat} {T : TypeId} {cs : List Value} {h : Hp} (x : ownS a n cap T size cs h) (hm : m ≤ n) : ownS a m cap T size (cs.take (m * size)) h := by
  have hle : m * size ≤ n * size := Nat.mul_le_mul_right _ hm
  obtain ⟨e, le, ⟨rfl, rfl⟩ | ⟨b, pre, post, rfl, hc, x⟩⟩ := x
  · have : m = 0 := by omega
    subst this
    exact ⟨by simp, Nat.le_refl _, .inl ⟨rfl, rfl⟩⟩
  · refine ⟨by rw [List.length_take, e]; omega, by omega, .inr ⟨b, pre, cs.drop (m * size) ++ post, rfl, ?_, ?_⟩⟩
    · rw [List.length_take, List.length_append, List.length_drop]; omega
    · rw [← List.append_assoc, List.append_assoc pre, List.take_append_drop]; exact x
theorem Imp.ownTake {a : Option Addr} {n cap m size : Nat} {T : TypeId} {cs : List Value} (hm : m ≤ n) : Imp (ownS a n cap T size cs :: L) (ownS a m cap T size (cs.take (m * size)) :: L) := fun _ s => stars_head_mono (fun _ x => ownS_take x hm) s
end
end Go.GL
