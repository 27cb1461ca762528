/- Struct and slice literals; bytes and strings; make. -/
import Derived.Test.YtkoakmaihcheaacDoorGLh
namespace Go.GL
open Go

/-- the parts of a literal, laid over its zero value: (place, size) by the part's number -/
def fillL (place : Nat → Option (Nat × Nat)) : List Value → List (Nat × Value) → Option (List Value)
  | c, [] => some c
  | c, (i, v) :: r => match place i, cellsOf v with
    | some (off, size), some vs => match Nat.beq vs.length size, setMany c off vs with
      | true, some c' => fillL place c' r
      | _, _ => none
    | _, _ => none
theorem foldl_set (vs : List Value) : ∀ (c : List Value) (off k : Nat) (c' : List Value), setMany c (off + k) vs = some c' →
    (vs.zipIdx k).foldl (fun cs x => Array.setIfInBounds cs (off + x.2) x.1) c.toArray = c'.toArray ∧ c'.length = c.length ∧ off + k + vs.length ≤ c.length + (if vs = [] then off + k else 0) := by
  induction vs with
  | nil =>
    intro c off k c' h
    simp only [setMany, Option.some.injEq] at h
    subst h
    exact ⟨rfl, rfl, by simp⟩
  | cons v vs ih =>
    intro c off k c' h
    simp only [setMany] at h
    split at h
    · rename_i c2 hc2
      obtain ⟨e, hlt⟩ := setOne_eq hc2
      obtain ⟨h1, h2, h3⟩ := ih c2 off (k + 1) c' h
      rw [List.zipIdx_cons, List.foldl_cons]
      have : Array.setIfInBounds c.toArray (off + k) v = c2.toArray := by rw [e]; simp
      simp only [this]
      refine ⟨h1, by rw [h2, e]; simp, ?_⟩
      have hl : c2.length = c.length := by rw [e]; simp
      cases vs with
      | nil => simp; omega
      | cons x y => simp at h3 ⊢; omega
    · cases h
theorem fill_eq {place place' : Nat → Option (Nat × Nat)} (hpp : ∀ i x, place i = some x → place' i = some x) : ∀ {parts : List (Nat × Value)} {c c' : List Value}, (∀ i off size, place i = some (off, size) → off + size ≤ c.length) → fillL place c parts = some c' → Instr.fill place' c.toArray parts = some c'.toArray
  | [], c, c', _, h => by simp only [fillL, Option.some.injEq] at h; subst h; rfl
  | (i, v) :: r, c, c', hp, h => by
    simp only [fillL] at h
    split at h
    · rename_i off size vs hpl hvs
      split at h
      · rename_i c2 hb hs
        have hlen := Nat.eq_of_beq_eq_true hb
        obtain ⟨h1, h2, _⟩ := foldl_set vs c off 0 c2 hs
        have hle := hp _ _ _ hpl
        have hc := cellsOf_eq hvs
        simp only [Instr.fill, hpp _ _ hpl, hc, List.size_toArray, hlen]
        rw [if_neg (by simp; omega)]
        have : Array.foldl (fun cs x => Array.setIfInBounds cs (off + x.2) x.1) c.toArray (vs.toArray.zipIdx) = c2.toArray := by
          rw [← h1]
          simp
        rw [this]
        exact fill_eq hpp (fun i off size e => by rw [h2]; exact hp i off size e) h
      · cases h
    · cases h

def rdParts (env : Env) : List (Nat × Operand) → Option (List (Nat × Value))
  | [] => some []
  | (i, x) :: r => match rd none env x with
    | some (none, v) => match rdParts env r with
      | some l => some ((i, v) :: l)
      | none => none
    | _ => none
theorem rdParts_ok {N : Nat} {env : Env} {a : Act} (ha : Agree N env a) : ∀ {xs : List (Nat × Operand)} {vs : List (Nat × Value)}, rdParts env xs = some vs → xs.map (fun x => (x.1, a.eval x.2)) = vs
  | [], vs, h => by cases h; rfl
  | (i, x) :: r, vs, h => by
    simp only [rdParts] at h
    split at h
    · rename_i v hv
      split at h
      · rename_i l hl; cases h; rw [List.map_cons, rd_plain hv ha, rdParts_ok ha hl]
      · cases h
    · cases h
def sPlaces (T : Tab) : List Field → Option (List (Nat × Nat))
  | [] => some []
  | f :: r => match T.find f.type, sPlaces T r with
    | some ti, some l => some ((f.offset, ti.size) :: l)
    | _, _ => none
def nthP : List (Nat × Nat) → Nat → Option (Nat × Nat)
  | [], _ => none
  | v :: _, 0 => some v
  | _ :: r, n + 1 => nthP r n
theorem nthP_eq (l : List (Nat × Nat)) (n : Nat) : nthP l n = l[n]? := by
  induction l generalizing n with
  | nil => rfl
  | cons v r ih => cases n <;> simp [nthP, ih]
def allFit (n : Nat) : List (Nat × Nat) → Bool
  | [] => true
  | (o, s) :: r => match Nat.ble (o + s) n with
    | true => allFit n r
    | false => false
theorem allFit_ok {n : Nat} {l : List (Nat × Nat)} (h : allFit n l = true) : ∀ (i o s : Nat), l[i]? = some (o, s) → o + s ≤ n := by
  induction l with
  | nil => intro i o s e; simp at e
  | cons x r ih =>
    obtain ⟨o', s'⟩ := x
    simp only [allFit] at h
    split at h
    · rename_i hb
      intro i o s e
      cases i with
      | zero => simp at e; obtain ⟨rfl, rfl⟩ := e; exact Nat.le_of_ble_eq_true hb
      | succ i => exact ih h i o s (by simpa using e)
    · cases h
/-- a struct's literal -/
def evBuild (T : Tab) (env : Env) (t : TypeId) (parts : List (Nat × Operand)) : Option Value :=
  match T.find t with
  | some ⟨.struct fs, _, _, z, true, _⟩ => match sPlaces T fs.toList, rdParts env parts with
    | some pl, some ps => match allFit z.length pl, fillL (nthP pl) z ps with
      | true, some c => some (.agg c.toArray)
      | _, _ => none
    | _, _ => none
  | some ⟨.array n e, _, _, z, true, _⟩ => match T.find e, rdParts env parts with
    | some ti, some ps => match Nat.beq (n * ti.size) z.length, fillL (fun i => match Nat.blt i n with | true => some (i * ti.size, ti.size) | false => none) z ps with
      | true, some c => some (.agg c.toArray)
      | _, _ => none
    | _, _ => none
  | _ => none
section
variable {G : Ctx} {N : Nat} {env : Env} {L : List Assn} {o : Oper} {post : Env → List Assn → Prop} {d : Nat}
theorem run_places {P : Program} {T : Tab} (hT : T.ok P) (w : World) : ∀ {fs : List Field} {pl : List (Nat × Nat)}, sPlaces T fs = some pl → (fs.mapM (fun f => do Pure.pure (f.offset, ← sizeOf f.type) : Field → Sem (Nat × Nat))).run P w = .ok pl w
  | [], pl, h => by cases h; simp
  | f :: r, pl, h => by
    simp only [sPlaces] at h
    split at h
    · rename_i ti l h1 h2
      cases h
      have ih := run_places hT w h2
      simp only [bind_pure_comp] at ih ⊢
      simp [run_size (Tab.find_ok hT h1), ih]
    · cases h
theorem val_run' {P : Program} {s : Sem Value} {v : Value} {w w' : World} (h : s.run P w = .ok v w') : (do Pure.pure (Next.value (← s)) : Sem Next).run P w = .ok (.value v) w' := by
  simp only [Sem.run_bind, h, Result.andThen_ok, Sem.run_pure]
theorem zero_agg {ti : TI} (h : ti.agg = true) : (zeroOf ti).cells = ti.zero.toArray := by simp [zeroOf, h, Value.cells]
theorem OP.buildT {t : TypeId} {ps : List (Nat × Operand)} {v : Value} (ho : o.op = .build t ps.toArray) (hv : evBuild G.T env t ps = some v) (hd : o.dst = some d) (hN : Nat.blt d N = true) (h : post ((d, .val v) :: env) L) : OP G N o env L post :=
  .run (fun a w ha _ => by
    rw [execOp, ho]
    refine val_run ?_
    unfold evBuild at hv
    split at hv
    · rename_i fs sz by_ z cm ht
      have e := Tab.find_ok G.ok ht
      split at hv
      · rename_i pl pv hpl hpv
        split at hv
        · rename_i c hfit hfill
          cases hv
          have hpv' := rdParts_ok ha hpv
          have hp := run_places (P := G.P) G.ok w hpl
          have hf := fill_eq (place' := nthP pl) (fun _ _ h => h) (fun i off size ei => allFit_ok hfit i off size (by rw [← nthP_eq]; exact ei)) hfill
          have hun : G.P.underlying t = some (.struct fs) := e.desc
          have hz : (zeroOf ⟨.struct fs, sz, by_, z, true, cm⟩).cells = z.toArray := zero_agg rfl
          have hmap : (fs.mapM (fun f => do Pure.pure (f.offset, ← sizeOf f.type) : Field → Sem (Nat × Nat))).run G.P w = .ok pl.toArray w := by
            obtain ⟨fl⟩ := fs
            rw [List.mapM_toArray]
            simp only [Sem.run_map]
            rw [hp]; rfl
          have hplace : (fun i => pl.toArray[i]?) = nthP pl := by funext i; rw [nthP_eq]; simp
          simp only [Instr.build, Sem.run_bind, run_zero e, Result.andThen_ok, run_underlying hun, hz, hmap, List.map_toArray, hpv', hplace, hf, Sem.run_pure]
        · cases hv
      · cases hv
    · rename_i n el sz by_ z cm ht
      have e := Tab.find_ok G.ok ht
      split at hv
      · rename_i ti pv hti hpv
        split at hv
        · rename_i c hb hfill
          cases hv
          have hpv' := rdParts_ok ha hpv
          have hlen := Nat.eq_of_beq_eq_true hb
          have hf := fill_eq (place' := fun i => some (i * ti.size, ti.size)) (fun i x hx => by
              split at hx
              · exact hx
              · cases hx) (fun i off size ei => by
              split at ei
              · rename_i hlt
                cases ei
                have hlt : i < n := by simpa [Nat.blt_eq] using hlt
                rw [← hlen, ← Nat.succ_mul]
                exact Nat.mul_le_mul_right _ hlt
              · cases ei) hfill
          have hun : G.P.underlying t = some (.array n el) := e.desc
          have hz : (zeroOf ⟨.array n el, sz, by_, z, true, cm⟩).cells = z.toArray := zero_agg rfl
          simp only [Instr.build, Sem.run_bind, run_zero e, Result.andThen_ok, run_underlying hun, hz, run_size (Tab.find_ok G.ok hti), List.map_toArray, hpv', hf, Sem.run_pure]
        · cases hv
      · cases hv
    · cases hv) hd hN h

def repL (z : List Value) : Nat → List Value
  | 0 => []
  | n + 1 => z ++ repL z n
theorem repL_length (z : List Value) (n : Nat) : (repL z n).length = n * z.length := by
  induction n with
  | zero => simp [repL]
  | succ n ih => simp [repL, ih, Nat.succ_mul, Nat.add_comm]
theorem repL_get (z : List Value) (n i : Nat) (h : i < n * z.length) : (repL z n)[i]? = z[i % z.length]? := by
  induction n generalizing i with
  | zero => simp at h
  | succ n ih =>
    unfold repL
    rw [Nat.succ_mul] at h
    by_cases hi : i < z.length
    · rw [List.getElem?_append_left hi, Nat.mod_eq_of_lt hi]
    · rw [List.getElem?_append_right (by omega), ih _ (by omega)]
      congr 1
      have : i = (i - z.length) + z.length := by omega
      conv => rhs; rw [this]
      rw [Nat.add_mod_right]
theorem rep_eq (z : Array Value) (n : Nat) : (Array.range (n * z.size)).map (fun i => z[i % z.size]!) = (repL z.toList n).toArray := by
  apply Array.ext
  · simp [repL_length]
  · intro i h1 h2
    have hi : i < n * z.toList.length := by simpa using h1
    have hpos : 0 < z.size := by
      rcases Nat.eq_zero_or_pos z.size with h | h
      · simp [h] at h1
      · exact h
    have := repL_get z.toList n i hi
    have hlt : i % z.size < z.size := Nat.mod_lt _ hpos
    simp only [Array.length_toList] at this
    have e1 : (repL z.toList n).toArray[i] = (repL z.toList n)[i]'(by simpa using h2) := by simp
    rw [e1]
    have h3 : (repL z.toList n)[i]? = some ((repL z.toList n)[i]'(by simpa using h2)) := List.getElem?_eq_getElem _
    rw [this] at h3
    simp [hlt] at h3
    rw [← h3]
    simp [hlt]
/-- a slice's literal: a new block -/
def evSliceLit (T : Tab) (env : Env) (e len : Nat) (parts : List (Nat × Operand)) : Option (List Value) :=
  match T.find e, rdParts env parts with
  | some ti, some ps => match Nat.ble (len * ti.size) 1000, Nat.ble 1 (len * ti.size) with
    | true, true => fillL (fun i => match Nat.blt i len with | true => some (i * ti.size, ti.size) | false => none) (repL ti.zero len) ps
    | _, _ => none
  | _, _ => none
theorem OP.sliceLit {t e len sz by_ : Nat} {ps : List (Nat × Operand)} {ti tsl : TI} {c : List Value} (ho : o.op = .buildSlice t len ps.toArray) (ht : G.T.find t = some tsl) (htd : tsl.desc = .slice e) (hte : G.T.find e = some ti) (hsz : szL ti = some (sz, by_)) (hv : evSliceLit G.T env e len ps = some c) (hd : o.dst = some d) (hN : Nat.blt d N = true)
    (h : ∀ b, post ((d, .val (.slice (some ⟨b, 0, none⟩) len len)) :: env) (ownS (some ⟨b, 0, none⟩) len len e sz c :: L)) : OP G N o env L post := .mk fun a w ha hs => by
  have hz1 := (szL_eq hsz).1
  subst hz1
  have eT := Tab.find_ok G.ok ht
  have eE := Tab.find_ok G.ok hte
  have hun : G.P.underlying t = some (.slice e) := htd ▸ eT.desc
  unfold evSliceLit at hv
  rw [hte] at hv
  split at hv
  · rename_i ti' ps' e1 hps
    cases e1
    split at hv
    · rename_i hb1 hb2
      have hb1 := Nat.le_of_ble_eq_true hb1
      have hb2 := Nat.le_of_ble_eq_true hb2
      have hpv' := rdParts_ok ha hps
      have hf := fill_eq (place' := fun i => some (i * ti.size, ti.size)) (fun i x hx => by
          split at hx
          · exact hx
          · cases hx) (fun i off size ei => by
          split at ei
          · rename_i hlt
            cases ei
            have hlt : i < len := by simpa [Nat.blt_eq] using hlt
            rw [repL_length, eE.zero, ← Nat.succ_mul]
            exact Nat.mul_le_mul_right _ hlt
          · cases ei) hv
      have hclen : c.length = len * ti.size := by
        have key : ∀ {place : Nat → Option (Nat × Nat)} (ps : List (Nat × Value)) (c c' : List Value), fillL place c ps = some c' → c'.length = c.length := by
          intro place ps
          induction ps with
          | nil => intro c c' h; simp only [fillL, Option.some.injEq] at h; rw [h]
          | cons x r ih =>
            obtain ⟨i, v⟩ := x
            intro c c' h
            simp only [fillL] at h
            split at h
            · split at h
              · rename_i hs
                rw [ih _ _ h, (foldl_set _ _ _ 0 _ hs).2.1]
              · cases h
            · cases h
        rw [key _ _ _ hv, repL_length, eE.zero]
      have hz : (zeroOf ti).cells = ti.zero.toArray := eE.zcells
      have hzs : (zeroOf ti).cells.size = ti.size := by rw [hz]; simp [eE.zero]
      have hrep := rep_eq (zeroOf ti).cells len
      rw [hzs, hz] at hrep
      simp only at hrep
      unfold Oper.wp
      have : (execOp a.eval o).run G.P w = .ok (.value (.slice (some ⟨w.heap.size, 0, none⟩) len len)) { w with heap := w.heap.push (.cells c.toArray e) } := by
        rw [execOp, ho]
        refine val_run' ?_
        have h1 : ¬ (len * ti.size > 2 ^ 24) := by omega
        simp only [Instr.buildSlice, Sem.run_bind, run_underlying hun, Result.andThen_ok, run_size eE, h1, if_false]
        have h0 : ¬ (len * ti.size = 0) := by omega
        simp only [h0, if_false, Sem.run_bind, run_zero eE, Result.andThen_ok, Sem.run_pure, List.map_toArray, hpv', hz, List.size_toArray, eE.zero, hrep, hf]
        simp [newRow]
      rw [this]
      simp only [Oper.upon, hd]
      refine ⟨_, _, ha.put hN _, stars_head_mono (fun k hk => ⟨hclen, Nat.le_refl _, .inr ⟨_, [], [], rfl, by simp [hclen], by simpa using hk⟩⟩) (hs.new c e), h _⟩
    · cases hv
  · cases hv
end
end Go.GL
