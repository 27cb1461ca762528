/- Bytes and strings, make. -/
import Derived.Test.YtkoakmaihcheaacDoorGLi
namespace Go.GL
open Go
section
variable {G : Ctx} {N : Nat} {env : Env} {L : List Assn} {o : Oper} {post : Env → List Assn → Prop} {d : Nat}
theorem strCells_length (s : ByteArray) : (strCells s).length = s.size := by simp [strCells]
theorem push_all {f : Value → ByteArray → Sem (ForInStep ByteArray)} (hf : ∀ b s, f (byteV b) s = Pure.pure (.yield (s.push b))) (l : List UInt8) : ∀ (s : ByteArray) (P : Program) (w : World),
    (forIn (m := Sem) (l.map byteV) s f).run P w = .ok ⟨(s.data.toList ++ l).toArray⟩ w := by
  induction l with
  | nil => intro s P w; simp
  | cons b r ih =>
    intro s P w
    simp only [List.map_cons, List.forIn_cons, hf, Sem.run_bind, Sem.run_pure, Result.andThen_ok]
    rw [ih (s.push b) P w]
    simp
/-- string(b) -/
theorem OP.toStr {s t e : TypeId} {x : Operand} {a : Option Addr} {n cap : Nat} {sv : ByteArray} {tis tit tie : TI} (ho : o.op = .convert s t x) (hx : rd none env x = some (none, .slice a n cap)) (hs : G.T.find s = some tis) (hsd : tis.desc = .slice e) (ht : G.T.find t = some tit) (htd : tit.desc = .string)
    (hte : G.T.find e = some tie) (hed : tie.desc = .int .u8) (hr : Ent L (readS a n 1 (strCells sv))) (hd : o.dst = some d) (hN : Nat.blt d N = true) (h : post ((d, .val (.string sv)) :: env) L) : OP G N o env L post :=
  .run (fun ac w ha hsat => by
    have us : G.P.underlying s = some (.slice e) := hsd ▸ (Tab.find_ok G.ok hs).desc
    have ut : G.P.underlying t = some .string := htd ▸ (Tab.find_ok G.ok ht).desc
    have ue : G.P.underlying e = some (.int .u8) := hed ▸ (Tab.find_ok G.ok hte).desc
    rw [execOp, ho]
    refine val_run ?_
    obtain ⟨e1, hh⟩ := hr _ hsat
    simp only [convert, Sem.run_bind, run_underlying us, run_underlying ut, Result.andThen_ok, rd_plain hx ha, run_underlying ue]
    rcases hh with ⟨rfl, rfl⟩ | ⟨b, off, rfl, hc⟩
    · have : sv = ByteArray.empty := by
        rw [strCells_length] at e1
        have h0 : sv.size = 0 := by simpa using e1
        exact ByteArray.size_eq_zero_iff.1 h0
      simp [Conv.bytesToString, this]
    · have hl := run_cells (P := G.P) hc (strCells sv).length 0 #[] (by omega)
      simp only [List.drop_zero, Array.empty_append] at hl
      have e1 : (strCells sv).length = n := by simpa using e1
      have hl' : (loadCells ⟨b, off, none⟩ n).run G.P w = .ok (strCells sv).toArray w := by rw [← e1]; exact hl
      simp only [Conv.bytesToString, Sem.run_bind, hl', Result.andThen_ok]
      rw [List.forIn_toArray]
      unfold strCells
      rw [push_all (fun b s => by simp [byteV]) sv.data.toList ByteArray.empty G.P w]
      simp) hd hN h
/-- []byte(s) -/
theorem OP.toBytes {s t e : TypeId} {x : Operand} {sv : ByteArray} {tis tit tie : TI} (ho : o.op = .convert s t x) (hx : rd none env x = some (none, .string sv)) (hs : G.T.find s = some tis) (hsd : tis.desc = .string) (ht : G.T.find t = some tit) (htd : tit.desc = .slice e)
    (hte : G.T.find e = some tie) (hed : tie.desc = .int .u8) (hd : o.dst = some d) (hN : Nat.blt d N = true)
    (h : ∀ b cap, post ((d, .val (.slice (some ⟨b, 0, none⟩) sv.size cap)) :: env) (ownS (some ⟨b, 0, none⟩) sv.size cap e 1 (strCells sv) :: L)) : OP G N o env L post := .mk fun a w ha hsat => by
  have us : G.P.underlying s = some .string := hsd ▸ (Tab.find_ok G.ok hs).desc
  have ut : G.P.underlying t = some (.slice e) := htd ▸ (Tab.find_ok G.ok ht).desc
  have ue : G.P.underlying e = some (.int .u8) := hed ▸ (Tab.find_ok G.ok hte).desc
  have hfo : (Question.appendCap sv.size 0 e).forced = false := rfl
  obtain ⟨cap, hcap, hge⟩ : ∃ cap, (Question.appendCap sv.size 0 e).cut (w.tape w.drawn (Question.appendCap sv.size 0 e)) = cap ∧ sv.size ≤ cap := ⟨_, rfl, by simp only [Question.cut]; omega⟩
  have hlen : (strCells sv ++ List.replicate (cap - sv.size) (Value.int .u8 0)).length = cap := by simp [strCells_length]; omega
  have harr : Array.map (fun b : UInt8 => Value.int .u8 b.toNat) sv.data ++ Array.replicate (cap - sv.size) (Value.int .u8 0) = (strCells sv ++ List.replicate (cap - sv.size) (Value.int .u8 0)).toArray := by
    apply Array.ext'
    simp [strCells, byteV]
  obtain ⟨w', hr, hs'⟩ : ∃ w', (execOp a.eval o).run G.P w = .ok (.value (.slice (some ⟨w.heap.size, 0, none⟩) sv.size cap)) w' ∧ Sat (blk w.heap.size (strCells sv ++ List.replicate (cap - sv.size) (Value.int .u8 0)) e :: L) w' := by
    have h1 : Sat (blk w.heap.size (strCells sv ++ List.replicate (cap - sv.size) (Value.int .u8 0)) e :: L) { w.drew with heap := w.heap.push (.cells (strCells sv ++ List.replicate (cap - sv.size) (Value.int .u8 0)).toArray e) } := Sat.new (w := w.drew) hsat _ e
    refine ⟨({ w.drew with heap := w.heap.push (.cells (strCells sv ++ List.replicate (cap - sv.size) (Value.int .u8 0)).toArray e) } : World).freeze ⟨w.heap.size, cap, none⟩ 1, ?_, ?_⟩
    · rw [execOp, ho]
      refine val_run' ?_
      simp only [convert, Sem.run_bind, run_underlying us, run_underlying ut, Result.andThen_ok, rd_plain hx ha, run_underlying ue, Conv.stringToBytes, run_choose, hfo, hcap, Bool.false_eq_true, if_false, harr, newRow, run_newObj, Sem.run_pure, markStringish, run_shape]
      have : (World.shape? { w with heap := w.heap.push (.cells (strCells sv ++ List.replicate (cap - sv.size) (Value.int .u8 0)).toArray e), drawn := w.drawn + 1 } w.heap.size) = some (e, cap) := by
        simp [World.shape?]
        simpa using hlen
      simp only [this, run_freeze, Result.andThen_ok]
      rfl
    · obtain ⟨p1, p2, dj, ej, ⟨fr, hb1, hf1⟩, rest⟩ := h1
      have hpb : p2 (w.heap.size + 1) = none := by
        rcases dj (w.heap.size + 1) with x | x
        · rw [x] at hb1; cases hb1
        · exact x
      refine ⟨fun b => if b = w.heap.size + 1 then some (.obj (.cells (strCells sv ++ List.replicate (cap - sv.size) (Value.int .u8 0)).toArray e (cap, cap + 1))) else p1 b, p2, ?_, ?_, ⟨(cap, cap + 1), by simp, .inr (by rw [hlen]; exact Nat.le_refl _)⟩, rest⟩
      · intro b
        by_cases hb : b = w.heap.size + 1
        · subst hb; exact .inr hpb
        · simp only [hb, if_false]; exact dj b
      · funext b
        have := congrFun ej b
        cases b with
        | zero => simpa [hpOf, Hp.join, World.freeze] using this
        | succ b =>
          unfold hpOf at *
          simp only [World.freeze, if_neg (show ¬ (1 = 0) by omega)]
          rw [Array.getElem?_modify]
          by_cases hb : b = w.heap.size
          · subst hb
            simp [Hp.join]
          · have hb' : ¬ w.heap.size = b := fun e => hb e.symm
            have hb2 : ¬ (b + 1 = w.heap.size + 1) := by omega
            simp only [hb', if_false, Hp.join, hb2]
            exact this
  unfold Oper.wp
  rw [hr]
  simp only [Oper.upon, hd]
  refine ⟨_, _, ha.put hN _, stars_head_mono (fun k hk => ⟨by simp [strCells_length], hge, .inr ⟨_, [], List.replicate (cap - sv.size) (Value.int .u8 0), rfl, by simp [strCells_length]; omega, by simpa using hk⟩⟩) hs', h _ _⟩
end
end Go.GL
