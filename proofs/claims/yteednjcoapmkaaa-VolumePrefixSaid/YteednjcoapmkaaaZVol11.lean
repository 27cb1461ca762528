/- Contracts of functions of the given program, and plain laws: parts of the proofs of laws. -/
import Derived.Test.YteednjcoapmkaaaZVol7
import Derived.Test.YteednjcoapmkaaaZVol10
/- Memory under a name: predicates that hide their addresses; reading out of memory that is lent. -/
namespace Go.GL
open Go
/-- There is an x for which these hold of separate parts. -/
def exA {ι : Type} (Ls : ι → List Assn) : Assn := fun h => ∃ x, stars (Ls x) h
theorem up_exA {ι : Type} (Ls : ι → List Assn) : Up (exA Ls) := fun _ _ l ⟨x, s⟩ => ⟨x, stars_mono l s⟩
theorem stars_open {ι : Type} {Ls : ι → List Assn} {L : List Assn} {h : Hp} (s : stars (exA Ls :: L) h) : ∃ x, stars (Ls x ++ L) h := by
  obtain ⟨x, s⟩ := stars_ex (A := fun x => stars (Ls x)) s
  exact ⟨x, stars_append.2 s⟩
theorem Imp.fold {ι : Type} {Ls : ι → List Assn} (x : ι) {M : List Assn} : Imp (Ls x ++ M) (exA Ls :: M) := fun _ s => stars_head_mono (fun _ hk => ⟨x, hk⟩) (stars_append.1 s)
/-- fold, the parts wherever they are -/
theorem Imp.foldP {ι : Type} {Ls : ι → List Assn} (x : ι) {L N M : List Assn} (p : Picks L (Ls x) N) (i : Imp (exA Ls :: N) M) : Imp L M := (p.imp.trans (Imp.fold x)).trans i
theorem Imp.appL {L M : List Assn} (i : Imp L M) : ∀ (E : List Assn), Imp (E ++ L) (E ++ M)
  | [] => i
  | _ :: E => (Imp.appL i E).cons
theorem Ent.of {A : Assn} {Ls L : List Assn} {R : Assn} (hu : Up A) (hA : ∀ k, A k → stars Ls k) (m : A ∈ L) (e : Ent Ls R) : Ent L R := Ent.mem m hu fun k a => e k (hA k a)
theorem Ent.at {A : Assn} {L : List Assn} (hu : Up A) (m : A ∈ L) : Ent L A := Ent.mem m hu fun _ a => a
theorem Ent.ofImp {L M : List Assn} (i : Imp L M) : Ent L (stars M) := fun h s => i h s
theorem Ent.ex {ι : Type} {Ls : ι → List Assn} {L : List Assn} (m : exA Ls ∈ L) : Ent L (exA Ls) := Ent.mem m (up_exA _) fun _ a => a
theorem Ent.exI {ι : Type} {Ls : ι → List Assn} {L : List Assn} (x : ι) (i : Imp L (Ls x)) : Ent L (exA Ls) := fun h s => ⟨x, i h s⟩
section
variable {G : Ctx} {N : Nat} {env : Env} {L M S : List Assn} {k : Kont} {ops : Array Oper} {rest : List Oper} {o : Oper} {c : Code} {ι : Type} {Ls : ι → List Assn}
theorem WC.open (i : Imp L (exA Ls :: M)) (h : ∀ x, WC G N c env (Ls x ++ M) k) : WC G N c env L k := .mk fun a w ha hs => by
  obtain ⟨x, s⟩ := stars_open (i.sat hs)
  exact (h x) a w ha s
theorem WL.open (i : Imp L (exA Ls :: M)) (h : ∀ x, WL G N ops rest env (Ls x ++ M) k) : WL G N ops rest env L k := .mk fun a w ha hs => by
  obtain ⟨x, s⟩ := stars_open (i.sat hs)
  exact (h x) a w ha s
theorem OP.open {post : Env → List Assn → Prop} (i : Imp L (exA Ls :: M)) (h : ∀ x, OP G N o env (Ls x ++ M) post) : OP G N o env L post := .mk fun a w ha hs => by
  obtain ⟨x, s⟩ := stars_open (i.sat hs)
  exact (h x) a w ha s
theorem RO.enterEx {f : FuncId} {fn : Func} {c : Code} {vs : List Value} {rs : List ResultVar} {v : Value} (hf : G.P.funcs[f]? = some fn) (hb : fn.body = some c) (hname : (fn.name == "runtime.NumGoroutine") = false) (hr : fn.results = rs.toArray) (hn : fn.ntmps = N)
    (hv : Nat.ble vs.length N = true) (h : ∀ x A, Up A → (∀ k, A k → stars (Ls x) k) → WC G N c (args0 0 vs) [A] (retK G rs (fun v' M => v' = v ∧ A ∈ M))) : RO G f vs (exA Ls) v :=
  ⟨⟨fn, c, hf, hname, hb⟩, fun w ⟨x, hw⟩ => (body_calls hf hb hr hn hv (h x (old w) (up_old w) (fun _ l => stars_mono l hw)) w (Sat.old w)).mono fun _ _ ⟨_, _, e, ⟨e1, e2⟩, s⟩ => ⟨by rw [e, e1], ext_of_old e2 s⟩⟩
theorem RT.enterEx {f : FuncId} {fn : Func} {c : Code} {vs : List Value} {rs : List ResultVar} {p : Value → List Assn → Prop} (hf : G.P.funcs[f]? = some fn) (hb : fn.body = some c) (hname : (fn.name == "runtime.NumGoroutine") = false) (hr : fn.results = rs.toArray) (hn : fn.ntmps = N)
    (hv : Nat.ble vs.length N = true) (h : ∀ x A, Up A → (∀ k, A k → stars (Ls x) k) → WC G N c (args0 0 vs) [A] (retK G rs (fun v M => ∃ E, p v E ∧ Imp M (E ++ [A])))) : RT G f vs (exA Ls) p := by
  refine ⟨⟨fn, c, hf, hname, hb⟩, fun M w he hs => ?_⟩
  obtain ⟨x, hx⟩ := he _ hs
  refine (body_calls hf hb hr hn hv (h x (fun k => stars M k ∧ stars (Ls x) k) (up_and (up_stars _) (up_stars _)) (fun _ a => a.2)) w (stars_one.1 hs |> fun _ => ?_)).mono ?_
  · exact ⟨hpOf w, Hp.empty, fun _ => .inr rfl, by funext b; simp [Hp.join, Hp.empty], ⟨hs, hx⟩, trivial⟩
  · rintro _ w' ⟨v, L, e, ⟨E, h1, h2⟩, s⟩
    exact ⟨v, E, e, h1, stars_app_one.2 (Imp.appL (fun _ s => stars_head_mono (fun _ a => a.1) s) E _ (h2 _ s))⟩
/-- a test parts the ways -/
theorem WC.split {c : Operand} {x y : Code} {p : Prop} [Decidable p] (hc : rd none env c = some (none, .bool (decide p))) (ht : p → WC G N x env L k) (hf : ¬ p → WC G N y env L k) : WC G N (.cond c x y) env L k :=
  .cond hc (fun h => ht (of_decide_eq_true h)) (fun h => hf (of_decide_eq_false h))
theorem WC.splitN {c : Operand} {x y : Code} {p : Prop} [Decidable p] (hc : rd none env c = some (none, .bool (!decide p))) (ht : ¬ p → WC G N x env L k) (hf : p → WC G N y env L k) : WC G N (.cond c x y) env L k :=
  .cond hc (fun h => ht (by simpa using h)) (fun h => hf (by simpa using h))
end
/-! ### elements of several cells -/
theorem flat_len {α : Type} {f : α → List Value} {z : Nat} (hz : ∀ x, (f x).length = z) : ∀ (l : List α), (l.flatMap f).length = l.length * z
  | [] => by simp
  | x :: l => by rw [List.flatMap_cons, List.length_append, hz, flat_len hz l, List.length_cons, Nat.succ_mul, Nat.add_comm]
theorem flat_drop {α : Type} {f : α → List Value} {z : Nat} (hz : ∀ x, (f x).length = z) : ∀ (l : List α) (k : Nat), (l.flatMap f).drop (k * z) = (l.drop k).flatMap f
  | [], k => by simp
  | x :: l, 0 => by simp
  | x :: l, k + 1 => by
    rw [List.flatMap_cons, List.drop_succ_cons, ← flat_drop hz l k, Nat.succ_mul, Nat.add_comm, ← List.drop_drop]
    congr 1
    rw [List.drop_append_of_le_length (by rw [hz]; exact Nat.le_refl _), List.drop_eq_nil_of_le (by rw [hz]; exact Nat.le_refl _), List.nil_append]
theorem flat_take {α : Type} {f : α → List Value} {z : Nat} (hz : ∀ x, (f x).length = z) : ∀ (l : List α) (k : Nat), (l.flatMap f).take (k * z) = (l.take k).flatMap f
  | [], k => by simp
  | x :: l, 0 => by simp
  | x :: l, k + 1 => by
    rw [List.flatMap_cons, List.take_succ_cons, List.flatMap_cons, ← flat_take hz l k, Nat.succ_mul, Nat.add_comm, List.take_append, List.take_of_length_le (by rw [hz]; omega), hz]
    congr 2
    omega
theorem flat_cut {α : Type} {f : α → List Value} {z : Nat} (hz : ∀ x, (f x).length = z) (l : List α) (k : Nat) (h : k < l.length) : f l[k] = ((l.flatMap f).drop (k * z)).take z := by
  rw [flat_drop hz, List.drop_eq_getElem_cons h, List.flatMap_cons, List.take_append_of_le_length (by rw [hz]; exact Nat.le_refl _), List.take_of_length_le (by rw [hz]; exact Nat.le_refl _)]
theorem flat_get {α : Type} {f : α → List Value} {z : Nat} (hz : ∀ x, (f x).length = z) (l : List α) (k j : Nat) (h : k < l.length) (hj : j < z) : (l.flatMap f)[k * z + j]? = (f l[k])[j]? := by
  rw [flat_cut hz l k h, List.getElem?_take, if_pos hj, List.getElem?_drop]
theorem flat_set {α : Type} {f : α → List Value} {z : Nat} (hz : ∀ x, (f x).length = z) : ∀ (l : List α) (k : Nat) (x : α), k < l.length → setMany (l.flatMap f) (k * z) (f x) = some ((l.set k x).flatMap f) := by
  intro l k x h
  have h1 : l.flatMap f = (l.take k).flatMap f ++ f l[k] ++ (l.drop (k + 1)).flatMap f := by
    conv => lhs; rw [← List.take_append_drop k l, List.drop_eq_getElem_cons h]
    rw [List.flatMap_append, List.flatMap_cons, List.append_assoc]
  have h2 : (l.set k x).flatMap f = (l.take k).flatMap f ++ f x ++ (l.drop (k + 1)).flatMap f := by
    rw [List.set_eq_take_append_cons_drop, if_pos h, List.flatMap_append, List.flatMap_cons, List.append_assoc]
  rw [h2, h1]
  have h3 := setMany_mid (f x) ((l.take k).flatMap f) (f l[k]) ((l.drop (k + 1)).flatMap f) (by rw [hz, hz])
  rw [flat_len hz, List.length_take, Nat.min_eq_left (by omega)] at h3
  exact h3
/-- a field of an element of a slice that is read -/
theorem Ent.elF {L : List Assn} {α : Type} {f : α → List Value} {z : Nat} (hz : ∀ x, (f x).length = z) {l : List α} {n k j b off : Nat} {v : Value} (hr : Ent L (readS (Option.some ⟨b, off, Option.none⟩) n z (l.flatMap f))) (h : k < l.length) (hj : Nat.blt j z = true) (hv : (f l[k])[j]? = Option.some v) :
    Ent L (cellAt b (off + k * z + j) v) := by
  rw [Nat.add_assoc]
  exact Ent.elem hr rfl ((flat_get hz l k j h (by simpa [Nat.blt_eq] using hj)).trans hv)
/-- an element as a whole -/
theorem Ent.elA {L : List Assn} {α : Type} {f : α → List Value} {z : Nat} (hz : ∀ x, (f x).length = z) {l : List α} {n k b off : Nat} (hr : Ent L (readS (Option.some ⟨b, off, Option.none⟩) n z (l.flatMap f))) (h : k < l.length) :
    Ent L (cellsAt b (off + k * z) (f l[k])) := Ent.elems hr rfl (by rw [hz]; exact flat_cut hz l k h)
theorem Ent.ofOwn {L : List Assn} {a : Option Addr} {n cap : Nat} {T : TypeId} {size : Nat} {cs : List Value} (m : ownS a n cap T size cs ∈ L) : Ent L (readS a n size cs) := Ent.own m
end Go.GL
/- Stores into what a slice owns. -/
namespace Go.GL
open Go
theorem setMany_app : ∀ (vs pre cs post : List Value) (i : Nat) {cs' : List Value}, setMany cs i vs = some cs' → setMany (pre ++ cs ++ post) (pre.length + i) vs = some (pre ++ cs' ++ post) ∧ cs'.length = cs.length
  | [], pre, cs, post, i, cs', h => by cases h; exact ⟨rfl, rfl⟩
  | v :: vs, pre, cs, post, i, cs', h => by
    simp only [setMany] at h
    split at h
    · rename_i c2 hc2
      obtain ⟨e, hlt⟩ := setOne_eq hc2
      obtain ⟨h1, h2⟩ := setMany_app vs pre c2 post (i + 1) h
      have h3 : setOne (pre ++ cs ++ post) (pre.length + i) v = some (pre ++ c2 ++ post) := by
        rw [setOne_lt _ (by simp; omega), e]
        congr 1
        rw [List.append_assoc, List.set_append_right _ _ (by omega), Nat.add_sub_cancel_left, List.set_append_left _ _ hlt, List.append_assoc]
      simp only [setMany, h3]
      exact ⟨h1, h2.trans (by rw [e, List.length_set])⟩
    · cases h
section
variable {G : Ctx} {N : Nat} {env : Env} {L : List Assn} {o : Oper} {post : Env → List Assn → Prop}
/-- a store into an element -/
theorem OP.storeO {t : TypeId} {x y : Operand} {b off i n cap size : Nat} {T : TypeId} {ti : TI} {v : Value} {vs cs cs' : List Value} {F : List Assn} (ho : o.op = .store t x y) (hx : rd none env x = some (none, .pointer (some ⟨b, off + i, none⟩)))
    (hy : rd none env y = some (none, v)) (ht : G.T.find t = some ti) (hv : cellsOf v = some vs) (h1 : allOne vs = true) (hl : vs.length = ti.size) (hL : Imp L (ownS (some ⟨b, off, none⟩) n cap T size cs :: F)) (hs : setMany cs i vs = some cs') (hd : o.dst = none)
    (h : post env (ownS (some ⟨b, off, none⟩) n cap T size cs' :: F)) : OP G N o env L post := .mk fun a w ha hsat => by
  obtain ⟨h1', h2, d, e', ⟨hcl, hle, hown⟩, rest⟩ := hL.sat hsat
  rcases hown with ⟨e, _⟩ | ⟨b', pre, post', e, hcap, hblk⟩
  · cases e
  · obtain ⟨hb, hoff⟩ : b = b' ∧ off = pre.length := by
      simp only [Option.some.injEq, Addr.mk.injEq] at e; exact ⟨e.1, e.2.1⟩
    subst hb hoff
    obtain ⟨s1, s2⟩ := setMany_app vs pre cs post' i hs
    have hsat' : Sat (blk b (pre ++ cs ++ post') T :: F) w := ⟨h1', h2, d, e', hblk, rest⟩
    refine wp_oper_mono ?_ (fun _ _ _ h => h) ((OP.store (G := G) (N := N) (L := blk b (pre ++ cs ++ post') T :: F) (post := fun e M => e = env ∧ M = blk b (pre ++ cs' ++ post') T :: F) ho hx hy ht hv h1 hl (UpdM.here s1) hd ⟨rfl, rfl⟩).go a w ha hsat')
    rintro a' w' ⟨e1, M, x, y, rfl, rfl⟩
    exact ⟨e1, _, x, stars_head_mono (fun k hk => ⟨s2.trans hcl, hle, .inr ⟨b, pre, post', rfl, by rw [s2]; exact hcap, hk⟩⟩) y, h⟩
end
/-! ### elements of several cells, where the elements of the list at hand have so many -/
theorem flatM_len {α : Type} {f : α → List Value} {z : Nat} : ∀ {l : List α}, (∀ x ∈ l, (f x).length = z) → (l.flatMap f).length = l.length * z
  | [], _ => by simp
  | x :: l, h => by rw [List.flatMap_cons, List.length_append, h x List.mem_cons_self, flatM_len (fun y hy => h y (List.mem_cons_of_mem _ hy)), List.length_cons, Nat.succ_mul, Nat.add_comm]
theorem flatM_drop {α : Type} {f : α → List Value} {z : Nat} : ∀ {l : List α} (_ : ∀ x ∈ l, (f x).length = z) (k : Nat), (l.flatMap f).drop (k * z) = (l.drop k).flatMap f
  | [], _, k => by simp
  | x :: l, _, 0 => by simp
  | x :: l, h, k + 1 => by
    have hx := h x List.mem_cons_self
    rw [List.flatMap_cons, List.drop_succ_cons, ← flatM_drop (fun y hy => h y (List.mem_cons_of_mem _ hy)) k, Nat.succ_mul, Nat.add_comm, ← List.drop_drop]
    congr 1
    rw [List.drop_append_of_le_length (by rw [hx]; exact Nat.le_refl _), List.drop_eq_nil_of_le (by rw [hx]; exact Nat.le_refl _), List.nil_append]
theorem flatM_cut {α : Type} {f : α → List Value} {z : Nat} {l : List α} (h : ∀ x ∈ l, (f x).length = z) {k : Nat} (hk : k < l.length) : f l[k] = ((l.flatMap f).drop (k * z)).take z := by
  have hx := h l[k] (List.getElem_mem hk)
  rw [flatM_drop h, List.drop_eq_getElem_cons hk, List.flatMap_cons, List.take_append_of_le_length (by rw [hx]; exact Nat.le_refl _), List.take_of_length_le (by rw [hx]; exact Nat.le_refl _)]
theorem flatM_get {α : Type} {f : α → List Value} {z : Nat} {l : List α} (h : ∀ x ∈ l, (f x).length = z) {k j : Nat} (hk : k < l.length) (hj : j < z) : (l.flatMap f)[k * z + j]? = (f l[k])[j]? := by
  rw [flatM_cut h hk, List.getElem?_take, if_pos hj, List.getElem?_drop]
theorem flatM_set {α : Type} {f : α → List Value} {z : Nat} {l : List α} (h : ∀ x ∈ l, (f x).length = z) {k : Nat} {x : α} (hk : k < l.length) (hx : (f x).length = z) : setMany (l.flatMap f) (k * z) (f x) = some ((l.set k x).flatMap f) := by
  have h1 : l.flatMap f = (l.take k).flatMap f ++ f l[k] ++ (l.drop (k + 1)).flatMap f := by
    conv => lhs; rw [← List.take_append_drop k l, List.drop_eq_getElem_cons hk]
    rw [List.flatMap_append, List.flatMap_cons, List.append_assoc]
  have h2 : (l.set k x).flatMap f = (l.take k).flatMap f ++ f x ++ (l.drop (k + 1)).flatMap f := by
    rw [List.set_eq_take_append_cons_drop, if_pos hk, List.flatMap_append, List.flatMap_cons, List.append_assoc]
  rw [h2, h1]
  have h3 := setMany_mid (f x) ((l.take k).flatMap f) (f l[k]) ((l.drop (k + 1)).flatMap f) (by rw [hx, h _ (List.getElem_mem hk)])
  rw [flatM_len (z := z) (fun y hy => h y (List.mem_of_mem_take hy)), List.length_take, Nat.min_eq_left (by omega)] at h3
  exact h3
theorem Ent.elMF {L : List Assn} {α : Type} {f : α → List Value} {z : Nat} {l : List α} (hz : ∀ x ∈ l, (f x).length = z) {n k j b off : Nat} {v : Value} (hr : Ent L (readS (Option.some ⟨b, off, Option.none⟩) n z (l.flatMap f))) (h : k < l.length) (hj : Nat.blt j z = true) (hv : (f l[k])[j]? = Option.some v) :
    Ent L (cellAt b (off + k * z + j) v) := by
  rw [Nat.add_assoc]
  exact Ent.elem hr rfl ((flatM_get hz h (by simpa [Nat.blt_eq] using hj)).trans hv)
theorem Ent.elMA {L : List Assn} {α : Type} {f : α → List Value} {z : Nat} {l : List α} (hz : ∀ x ∈ l, (f x).length = z) {n k b off : Nat} (hr : Ent L (readS (Option.some ⟨b, off, Option.none⟩) n z (l.flatMap f))) (h : k < l.length) :
    Ent L (cellsAt b (off + k * z) (f l[k])) := Ent.elems hr rfl (by rw [hz _ (List.getElem_mem h)]; exact flatM_cut hz h)
theorem setMany_all {old vs : List Value} (h : old.length = vs.length) : setMany old 0 vs = some vs := by
  have := setMany_mid vs [] old [] h
  simpa using this
theorem takeL_all : ∀ (l : List Value), takeL l l.length = some l
  | [] => rfl
  | x :: r => by simp only [List.length_cons, takeL, takeL_all r]
theorem cutL_all {l : List Value} {n : Nat} (h : l.length = n) : cutL l 0 n = some l := by subst h; cases l <;> exact takeL_all _
end Go.GL
/- Contracts of functions of the given program, and plain laws on what they compute: parts of the proofs of laws. -/
namespace Go.Proofs.Yteednjcoapmkaaa
open Go Go.GL

/-- a disk: its sectors, its loose writes -/
structure Dsk where
  S : List (List UInt8)
  W : List (Nat × List UInt8)
def zero64 : List UInt8 := List.replicate 64 0
structure Dsk.ok (D : Dsk) : Prop where
  s64 : ∀ s ∈ D.S, s.length = 64
  w64 : ∀ x ∈ D.W, x.1 < D.S.length ∧ x.2.length = 64
  few : D.S.length ≤ 1024
def Dsk.new (n : Int) : Dsk := ⟨List.replicate (max 0 (min n 1024)).toNat zero64, []⟩
def curF (i : Nat) (s : List UInt8) (W : List (Nat × List UInt8)) : List UInt8 := W.foldl (fun s x => if x.1 = i then x.2 else s) s
/-- what a sector reads as -/
def Dsk.cur (D : Dsk) (i : Nat) : List UInt8 := curF i (D.S.getD i []) D.W
def settleF (kept : Nat → Bool) : Nat → List (Nat × List UInt8) → List (List UInt8) → List (List UInt8)
  | _, [], S => S
  | k, x :: r, S => settleF kept (k + 1) r (if kept k = true then S.set x.1 x.2 else S)
def Dsk.settle (D : Dsk) (kept : Nat → Bool) : Dsk := ⟨settleF kept 0 D.W D.S, []⟩
def Dsk.flush (D : Dsk) : Dsk := D.settle (fun _ => true)
def keeps (keep : Int) (k : Nat) : Bool := keep.toNat.testBit (k % 64)
def Dsk.crash (D : Dsk) (keep : Int) : Dsk := D.settle (keeps keep)
/-- a write that can be -/
def Dsk.put (D : Dsk) (i : Nat) (b : List UInt8) : Dsk := ⟨D.S, D.W ++ [(i, b)]⟩

theorem settleF_length (kept : Nat → Bool) : ∀ (W : List (Nat × List UInt8)) (k : Nat) (S : List (List UInt8)), (settleF kept k W S).length = S.length
  | [], _, _ => rfl
  | x :: r, k, S => by
    rw [settleF, settleF_length kept r]
    split <;> simp
theorem settleF_64 (kept : Nat → Bool) : ∀ (W : List (Nat × List UInt8)) (k : Nat) (S : List (List UInt8)), (∀ s ∈ S, s.length = 64) → (∀ x ∈ W, x.2.length = 64) → ∀ s ∈ settleF kept k W S, s.length = 64
  | [], _, _, h, _ => h
  | x :: r, k, S, h, hw => by
    rw [settleF]
    refine settleF_64 kept r (k + 1) _ ?_ (fun y hy => hw y (List.mem_cons_of_mem _ hy))
    split
    · intro s hs
      rcases List.mem_or_eq_of_mem_set hs with h1 | h1
      · exact h s h1
      · rw [h1]; exact hw x List.mem_cons_self
    · exact h
theorem Dsk.settle_ok {D : Dsk} (h : D.ok) (kept : Nat → Bool) : (D.settle kept).ok :=
  ⟨settleF_64 kept D.W 0 D.S h.s64 (fun x hx => (h.w64 x hx).2), (by intro x hx; cases hx), by show (settleF kept 0 D.W D.S).length ≤ 1024; rw [settleF_length]; exact h.few⟩
theorem Dsk.settle_len (D : Dsk) (kept : Nat → Bool) : (D.settle kept).S.length = D.S.length := settleF_length _ _ _ _
theorem Dsk.put_ok {D : Dsk} (h : D.ok) {i : Nat} {b : List UInt8} (hi : i < D.S.length) (hb : b.length = 64) : (D.put i b).ok :=
  ⟨h.s64, fun x hx => by
    rcases List.mem_append.1 hx with hx | hx
    · exact h.w64 x hx
    · rw [List.mem_singleton.1 hx]; exact ⟨hi, hb⟩, h.few⟩
theorem Dsk.new_ok (n : Int) : (Dsk.new n).ok :=
  ⟨fun s hs => by rw [List.eq_of_mem_replicate hs]; exact List.length_replicate, (by intro x hx; cases hx), by simp only [Dsk.new, List.length_replicate]; omega⟩
theorem curF_snoc (i : Nat) (s : List UInt8) (W : List (Nat × List UInt8)) (x : Nat × List UInt8) : curF i s (W ++ [x]) = if x.1 = i then x.2 else curF i s W := by
  unfold curF; rw [List.foldl_append]; rfl
theorem curF_64 {i : Nat} {s : List UInt8} {W : List (Nat × List UInt8)} (hs : s.length = 64) (hw : ∀ x ∈ W, x.2.length = 64) : (curF i s W).length = 64 := by
  unfold curF
  induction W generalizing s with
  | nil => exact hs
  | cons x r ih =>
    rw [List.foldl_cons]
    refine ih ?_ (fun y hy => hw y (List.mem_cons_of_mem _ hy))
    split
    · exact hw x List.mem_cons_self
    · exact hs
theorem Dsk.cur_64 {D : Dsk} (h : D.ok) {i : Nat} (hi : i < D.S.length) : (D.cur i).length = 64 :=
  curF_64 (h.s64 _ (by rw [List.getD_eq_getElem?_getD, List.getElem?_eq_getElem hi]; exact List.getElem_mem hi)) (fun x hx => (h.w64 x hx).2)
theorem settleF_snoc (kept : Nat → Bool) : ∀ (W : List (Nat × List UInt8)) (k : Nat) (S : List (List UInt8)) (x : Nat × List UInt8), settleF kept k (W ++ [x]) S = if kept (k + W.length) = true then (settleF kept k W S).set x.1 x.2 else settleF kept k W S
  | [], k, S, x => by simp [settleF]
  | y :: r, k, S, x => by
    rw [List.cons_append, settleF, settleF, settleF_snoc kept r (k + 1) _ x, List.length_cons]
    rw [show k + 1 + r.length = k + (r.length + 1) by omega]
/-- what reads the same before and behind a flush -/
theorem settle_true_get : ∀ (W : List (Nat × List UInt8)) (k : Nat) (S : List (List UInt8)) (i : Nat), i < S.length → (settleF (fun _ => true) k W S).getD i [] = curF i (S.getD i []) W
  | [], _, _, _, _ => rfl
  | x :: r, k, S, i, hi => by
    rw [settleF, if_pos rfl, settle_true_get r (k + 1) _ i (by simpa using hi)]
    unfold curF
    rw [List.foldl_cons]
    congr 1
    by_cases h : x.1 = i
    · subst h; simp [hi]
    · rw [if_neg h, List.getD_eq_getElem?_getD, List.getD_eq_getElem?_getD, List.getElem?_set_ne h]
theorem Dsk.flush_cur (D : Dsk) {i : Nat} (hi : i < D.S.length) : D.flush.cur i = D.cur i := settle_true_get D.W 0 D.S i hi
end Go.Proofs.Yteednjcoapmkaaa
/- Contracts of functions of the given program, and plain laws on what they compute: parts of the proofs of laws. -/
namespace Go.Proofs.Yteednjcoapmkaaa
open Go Go.GL

/-- a journal's head: its turn, the first record's number, the generation, the low one -/
structure Hd where
  turn : Int
  first : Int
  gen : Int
  low : Int
def headB (h : Hd) : List UInt8 := numB (clampN h.turn) ++ numB (clampN h.first) ++ numB (clampN h.gen) ++ numB (clampN h.low)
def headS (h : Hd) : List UInt8 := sectorM (headB h)
theorem headB_len (h : Hd) : (headB h).length ≤ 60 := by
  have h1 := numB_nine h.turn
  have h2 := numB_nine h.first
  have h3 := numB_nine h.gen
  have h4 := numB_nine h.low
  unfold headB
  simp only [List.length_append]
  omega
theorem headS_len (h : Hd) : (headS h).length = 64 := sectorM_len (headB_len h)
/-- four numbers that are read -/
def hd4 (s : PR) : Hd × PR :=
  (⟨(numR s).1, (numR (numR s).2).1, (numR (numR (numR s).2).2).1, (numR (numR (numR (numR s).2).2).2).1⟩, (numR (numR (numR (numR s).2).2).2).2)
def HdOk (b : List UInt8) (slot : Int) (h : Hd) (e : Int) : Prop := e = 0 ∧ h.low ≤ h.gen ∧ 0 < h.first ∧ h.turn % 2 = slot ∧ headS h = b
instance (b : List UInt8) (slot : Int) (h : Hd) (e : Int) : Decidable (HdOk b slot h e) := by unfold HdOk; infer_instance
/-- the head that a sector tells -/
def headOf (b : List UInt8) (slot : Int) : Option Hd :=
  if OpenOk b ∧ HdOk b slot (hd4 (b.take (b.length - 4), 0)).1 (hd4 (b.take (b.length - 4), 0)).2.2 then some (hd4 (b.take (b.length - 4), 0)).1 else none
def hd0 : Hd := ⟨0, 1, 0, 0⟩
/-- the head that counts; none: the heads are spoilt -/
def newestM (a b : List UInt8) : Option Hd :=
  match headOf a 0, headOf b 1 with
  | some x, some y => if x.turn < y.turn then some y else some x
  | some x, none => some x
  | none, some y => some y
  | none, none => if a = zero64 ∧ b = zero64 then some hd0 else none
/-- a record that is held, and its generation -/
abbrev Held := Int × Rec
def posM (ring : Nat) (seq : Int) : Nat := 2 + (seq % ring).toNat
/-- is the record the next one? -/
def fits (b : List UInt8) (seq low gen : Int) : Option Held :=
  match decR b with
  | .ok (g, r) => if r.1 = seq ∧ low ≤ g ∧ g ≤ gen then some (g, r) else none
  | .error _ => none
def scanF (D : Dsk) (ring : Nat) (h : Hd) : Nat → List Held → Int → List Held
  | 0, l, _ => l
  | k + 1, l, low => match fits (D.cur (posM ring (h.first + l.length))) (h.first + l.length) low h.gen with
    | some x => scanF D ring h k (l ++ [x]) x.1
    | none => l
def scanM (D : Dsk) (ring : Nat) (h : Hd) : List Held := scanF D ring h ring [] h.low
/-- a journal: its ring, its head, what it holds -/
structure Jrn where
  ring : Nat
  hd : Hd
  held : List Held
def Jrn.next (J : Jrn) : Int := J.hd.first + J.held.length
def Hd.up (h : Hd) : Hd := { h with turn := h.turn + 1 }
/-- a head is saved -/
def saveM (D : Dsk) (h : Hd) : Dsk := (D.put (h.turn % 2).toNat (headS h)).flush
def openM (D : Dsk) (ring : Int) : Except Int (Jrn × Dsk) :=
  if ring < 1 ∨ 512 < ring ∨ (D.S.length : Int) < 2 + ring then .error 1
  else match newestM (D.cur 0) (D.cur 1) with
    | none => .error 4
    | some h => .ok (⟨ring.toNat, { h with gen := h.gen + 1, turn := h.turn + 1 }, scanM D ring.toNat h⟩, saveM D { h with gen := h.gen + 1, turn := h.turn + 1 })
def setSeq (r : Rec) (n : Int) : Rec := (n, r.2)
/-- Append: the error's numbers, outermost first; or the record is put behind -/
def appendM (J : Jrn) (D : Dsk) (r : Rec) : Except Int (Jrn × Dsk) :=
  if J.held.length = J.ring then .error 6
  else if RightR (setSeq r J.next) ∧ (0 ≤ J.hd.gen ∧ J.hd.gen ≤ widest) then
    .ok ({ J with held := J.held ++ [(J.hd.gen, setSeq r J.next)] }, D.put (posM J.ring J.next) (sectorM (bodyM J.hd.gen (setSeq r J.next))))
  else .error 1
def trimM (J : Jrn) (D : Dsk) (k : Int) : Except Int (Jrn × Dsk) :=
  if k < 0 ∨ (J.held.length : Int) < k then .error 1
  else if k = 0 then .ok (J, D)
  else .ok ({ J with hd := { J.hd with turn := J.hd.turn + 1, first := J.hd.first + k, low := (J.held.getD (k.toNat - 1) (0, rec0)).1 }, held := J.held.drop k.toNat },
    saveM D.flush { J.hd with turn := J.hd.turn + 1, first := J.hd.first + k, low := (J.held.getD (k.toNat - 1) (0, rec0)).1 })
end Go.Proofs.Yteednjcoapmkaaa
/- Contracts of functions of the given program, and plain laws on what they compute: parts of the proofs of laws. -/
namespace Go.Proofs.Yteednjcoapmkaaa
open Go Go.GL

theorem openOk_sector {l : List UInt8} (h : l.length ≤ 60) : OpenOk (sectorM l) ∧ (sectorM l).take ((sectorM l).length - 4) = padM l := by
  have h1 := sectorM_len h
  have h2 := padM_len h
  have e : (sectorM l).take ((sectorM l).length - 4) = padM l := by
    rw [h1]
    unfold sectorM
    exact List.take_left' h2
  have e2 : (sectorM l).drop ((sectorM l).length - 4) = tailM (padM l) := by
    rw [h1]
    unfold sectorM
    exact List.drop_left' h2
  exact ⟨⟨by omega, by rw [e, e2]⟩, e⟩
structure Hd.ok (h : Hd) : Prop where
  turn : 0 ≤ h.turn ∧ h.turn ≤ widest
  first : 1 ≤ h.first ∧ h.first ≤ widest
  low : 0 ≤ h.low ∧ h.low ≤ h.gen
  gen : h.gen ≤ widest
theorem hd4_pad {h : Hd} (k : h.ok) : hd4 (padM (headB h), 0) = (h, (List.replicate (60 - (headB h).length) 0, 0)) := by
  have e : padM (headB h) = numB (clampN h.turn) ++ (numB (clampN h.first) ++ (numB (clampN h.gen) ++ (numB (clampN h.low) ++ List.replicate (60 - (headB h).length) 0))) := by
    unfold padM
    generalize List.replicate (60 - (headB h).length) (0 : UInt8) = z
    unfold headB
    simp only [List.append_assoc]
  have h1 := k.turn
  have h2 := k.first
  have h3 := k.low
  have h4 := k.gen
  unfold hd4
  rw [e, numR_numB h1]
  dsimp only
  rw [numR_numB (by omega)]
  dsimp only
  rw [numR_numB (by omega)]
  dsimp only
  rw [numR_numB (by omega)]
theorem headOf_headS {h : Hd} (k : h.ok) (slot : Int) : headOf (headS h) slot = if h.turn % 2 = slot then some h else none := by
  obtain ⟨o1, o2⟩ := openOk_sector (headB_len h)
  have e : hd4 ((headS h).take ((headS h).length - 4), 0) = (h, (List.replicate (60 - (headB h).length) 0, 0)) := by
    unfold headS; rw [o2]; exact hd4_pad k
  unfold headOf
  rw [e]
  dsimp only
  have h1 := k.first
  have h2 := k.low
  by_cases hs : h.turn % 2 = slot
  · rw [if_pos hs, if_pos ⟨o1, rfl, h2.2, by omega, hs, rfl⟩]
  · rw [if_neg hs, if_neg (fun x => hs x.2.2.2.2.1)]
theorem readM_zero : (readM (List.replicate 60 0, 0)).1.2.2.1 = 0 := by decide
theorem decR_zero (x : Int × Rec) : decR zero64 ≠ .ok x := by
  intro h
  have hr := (decR_ok h).1
  unfold decR at h
  split at h
  · split at h
    · cases h
      have e : zero64.take 60 = List.replicate 60 0 := rfl
      rw [e] at hr
      obtain ⟨_, hk⟩ := hr
      have hz := readM_zero
      generalize (readM (List.replicate 60 0, 0)).1.2 = y at *
      omega
    · cases h
  · cases h
theorem hd4_zero : (hd4 (List.replicate 60 0, 0)).1.first = 0 := by decide
theorem headOf_zero (slot : Int) : headOf zero64 slot = none := by
  unfold headOf
  rw [if_neg]
  rintro ⟨_, _, _, h, _⟩
  have e : zero64.take (zero64.length - 4) = List.replicate 60 0 := rfl
  rw [e, hd4_zero] at h
  omega
theorem fits_some {b : List UInt8} {seq low gen : Int} {x : Held} (h : fits b seq low gen = some x) : decR b = .ok x ∧ x.2.1 = seq ∧ low ≤ x.1 ∧ x.1 ≤ gen := by
  unfold fits at h
  split at h
  · rename_i g r hd
    split at h
    · rename_i hc; cases h; exact ⟨hd, hc⟩
    · cases h
  · cases h
theorem fits_ok {b : List UInt8} {seq low gen : Int} {x : Held} (h : decR b = .ok x) (h1 : x.2.1 = seq) (h2 : low ≤ x.1) (h3 : x.1 ≤ gen) : fits b seq low gen = some x := by
  unfold fits
  rw [h]
  obtain ⟨g, r⟩ := x
  dsimp only at h1 h2 h3 ⊢
  rw [if_pos ⟨h1, h2, h3⟩]
theorem fits_none {b : List UInt8} {seq low gen : Int} (h : ∀ x, decR b = .ok x → x.2.1 = seq → low ≤ x.1 → x.1 ≤ gen → False) : fits b seq low gen = none := by
  cases hf : fits b seq low gen with
  | none => rfl
  | some x => obtain ⟨h1, h2, h3, h4⟩ := fits_some hf; exact (h x h1 h2 h3 h4).elim
/-- the generation that a record at a place must reach -/
def lowAt (low : Int) (held : List Held) (i : Nat) : Int := if i = 0 then low else (held.getD (i - 1) (0, rec0)).1
theorem lowAt_succ (low : Int) (held : List Held) {i : Nat} (h : i < held.length) : lowAt low held (i + 1) = held[i].1 := by
  unfold lowAt
  rw [if_neg (by omega), Nat.add_sub_cancel, List.getD_eq_getElem?_getD, List.getElem?_eq_getElem h]; rfl
/-- the scan finds just these -/
theorem scan_take {D : Dsk} {ring : Nat} {h : Hd} {held : List Held} {p : Nat} (hp : p ≤ ring) (hl : p ≤ held.length)
    (hit : ∀ i (hi : i < p), fits (D.cur (posM ring (h.first + i))) (h.first + i) (lowAt h.low held i) h.gen = some (held[i]'(by omega)))
    (stop : p < ring → fits (D.cur (posM ring (h.first + p))) (h.first + p) (lowAt h.low held p) h.gen = none) : scanM D ring h = held.take p := by
  have key : ∀ (k i : Nat), i ≤ p → k = ring - i → scanF D ring h k (held.take i) (lowAt h.low held i) = held.take p := by
    intro k
    induction k with
    | zero =>
      intro i hi hk
      have : i = p := by omega
      subst this; rfl
    | succ k ih =>
      intro i hi hk
      have hlen : (held.take i).length = i := by rw [List.length_take]; omega
      unfold scanF
      rw [hlen]
      by_cases hip : i < p
      · rw [hit i hip]
        dsimp only
        have := ih (i + 1) (by omega) (by omega)
        rw [lowAt_succ _ _ (by omega), List.take_succ_eq_append_getElem (by omega)] at this
        exact this
      · have : i = p := by omega
        subst this
        rw [stop (by omega)]
  exact key ring 0 (by omega) (by omega)
def secH (x : Held) : List UInt8 := sectorM (bodyM x.1 x.2)
/-- what holds of a journal and its disk: the first f records are fast -/
structure JInv (J : Jrn) (D : Dsk) (f : Nat) (B : Int) : Prop where
  dok : D.ok
  ring : 1 ≤ J.ring ∧ J.ring ≤ 512 ∧ 2 + J.ring ≤ D.S.length
  hdr : 0 ≤ J.hd.turn ∧ 1 ≤ J.hd.first ∧ 0 ≤ J.hd.low ∧ J.hd.low ≤ J.hd.gen
  bound : J.hd.turn + J.hd.gen + J.hd.first + J.held.length ≤ B
  len : J.held.length ≤ J.ring
  fle : f ≤ J.held.length
  seq : ∀ i (h : i < J.held.length), (J.held[i]).2.1 = J.hd.first + i
  right : ∀ x ∈ J.held, RightR x.2
  gens : ∀ i (h : i < J.held.length), lowAt J.hd.low J.held i ≤ (J.held[i]).1 ∧ (J.held[i]).1 ≤ J.hd.gen
  new : ∀ i (h : i < J.held.length), f ≤ i → (J.held[i]).1 = J.hd.gen
  head : D.S.getD (J.hd.turn % 2).toNat [] = headS J.hd
  other : ∀ h', headOf (D.S.getD (1 - J.hd.turn % 2).toNat []) (1 - J.hd.turn % 2) = some h' → h'.turn < J.hd.turn
  durable : ∀ i (h : i < J.held.length), i < f → D.S.getD (posM J.ring (J.hd.first + i)) [] = secH J.held[i]
  loose : D.W = (J.held.drop f).map (fun x => (posM J.ring x.2.1, secH x))
  stale : ∀ q, q < J.ring → ∀ x, decR (D.S.getD (2 + q) []) = .ok x → x.1 ≤ J.hd.gen ∧ (J.hd.first + f < x.2.1 → x.1 < J.hd.gen)
  stop : fits (D.S.getD (posM J.ring (J.hd.first + f)) []) (J.hd.first + f) (lowAt J.hd.low J.held f) J.hd.gen = none
theorem pos_inj {ring : Nat} (hr : 1 ≤ ring) {a b : Int} (h : posM ring a = posM ring b) (hab : a ≤ b) (hb : b < a + ring) : a = b := by
  unfold posM at h
  have h1 : a % ring = b % ring := by
    have := Int.emod_nonneg a (show (ring : Int) ≠ 0 by omega)
    have := Int.emod_nonneg b (show (ring : Int) ≠ 0 by omega)
    omega
  have h2 : (b - a) % ring = 0 := by rw [Int.sub_emod, h1]; simp
  obtain ⟨k, hk⟩ := Int.dvd_of_emod_eq_zero h2
  have hk0 : k = 0 := by
    rcases Int.lt_trichotomy k 0 with h | h | h
    · have : (ring : Int) * k ≤ ring * (-1) := Int.mul_le_mul_of_nonneg_left (by omega) (by omega)
      omega
    · exact h
    · have : (ring : Int) * 1 ≤ ring * k := Int.mul_le_mul_of_nonneg_left (by omega) (by omega)
      omega
  rw [hk0, Int.mul_zero] at hk
  omega
theorem pos_bd {ring : Nat} (hr : 1 ≤ ring) (a : Int) : 2 ≤ posM ring a ∧ posM ring a < 2 + ring ∧ posM ring a = 2 + (posM ring a - 2) ∧ posM ring a - 2 < ring := by
  unfold posM
  have := Int.emod_nonneg a (show (ring : Int) ≠ 0 by omega)
  have := Int.emod_lt_of_pos a (show (0 : Int) < ring by omega)
  omega
theorem pos_wrap {ring : Nat} (a : Int) : posM ring (a + ring) = posM ring a := by
  unfold posM
  rw [Int.add_emod_right]
/-- what a settled disk's sector is -/
theorem settle_other (kept : Nat → Bool) : ∀ (W : List (Nat × List UInt8)) (k : Nat) (S : List (List UInt8)) (p : Nat), (∀ x ∈ W, x.1 ≠ p) → (settleF kept k W S).getD p [] = S.getD p []
  | [], _, _, _, _ => rfl
  | x :: r, k, S, p, h => by
    rw [settleF, settle_other kept r (k + 1) _ p (fun y hy => h y (List.mem_cons_of_mem _ hy))]
    have := h x List.mem_cons_self
    split
    · rw [List.getD_eq_getElem?_getD, List.getD_eq_getElem?_getD, List.getElem?_set_ne this]
    · rfl
theorem settle_at (kept : Nat → Bool) : ∀ (W : List (Nat × List UInt8)) (k : Nat) (S : List (List UInt8)) (t : Nat) (ht : t < W.length), (∀ u (hu : u < W.length), u ≠ t → W[u].1 ≠ W[t].1) → W[t].1 < S.length →
    (settleF kept k W S).getD W[t].1 [] = if kept (k + t) = true then W[t].2 else S.getD W[t].1 []
  | x :: r, k, S, 0, _, h, hp => by
    rw [settleF]
    show (settleF kept (k + 1) r _).getD x.1 [] = _
    rw [settle_other kept r (k + 1) _ x.1 (fun y hy => by
      obtain ⟨u, hu, rfl⟩ := List.getElem_of_mem hy
      exact h (u + 1) (by simpa using hu) (by omega))]
    show _ = if kept (k + 0) = true then x.2 else S.getD x.1 []
    rw [Nat.add_zero]
    have hp' : x.1 < S.length := hp
    split
    · rw [List.getD_eq_getElem?_getD, List.getElem?_set_self hp']; rfl
    · rfl
  | x :: r, k, S, t + 1, ht, h, hp => by
    rw [settleF]
    have ht' : t < r.length := by simpa using ht
    have hx : x.1 ≠ r[t].1 := h 0 (by simp) (by omega)
    have hlen : (if kept k = true then S.set x.1 x.2 else S).length = S.length := by split <;> simp
    have := settle_at kept r (k + 1) (if kept k = true then S.set x.1 x.2 else S) t ht' (fun u hu hne => h (u + 1) (by simpa using hu) (by omega)) (by rw [hlen]; exact hp)
    show (settleF kept (k + 1) r _).getD r[t].1 [] = if kept (k + (t + 1)) = true then r[t].2 else S.getD r[t].1 []
    rw [this, show k + 1 + t = k + (t + 1) by omega]
    have e : (if kept k = true then S.set x.1 x.2 else S).getD r[t].1 [] = S.getD r[t].1 [] := by
      split
      · rw [List.getD_eq_getElem?_getD, List.getD_eq_getElem?_getD, List.getElem?_set_ne hx]
      · rfl
    rw [e]
end Go.Proofs.Yteednjcoapmkaaa
