/- Contracts of functions of the given program, and plain laws: parts of the proofs of laws. -/
import Derived.Test.YtleajkobmhhacaaGreatDoorZCQ4
import Derived.Scope
/- Memory under a name: predicates that hide their addresses; reading out of memory that is lent. -/
namespace Go.GL
open Go
/-- There is an x for which these hold of separate parts. -/
def exA {ι : Type} (Ls : ι → List Assn) : Assn := fun h => ∃ x, stars (Ls x) h
theorem up_exA {ι : Type} (Ls : ι → List Assn) : Up (exA Ls) := fun _ _ l ⟨x, s⟩ => ⟨x, stars_mono l s⟩
theorem stars_open {ι : Type} {Ls : ι → List Assn} {L : List Assn} {h : Hp} (s : stars (exA Ls :: L) h) : ∃ x, stars (Ls x ++ L) h := by
  obtain ⟨x, s⟩ := stars_ex (A := fun x => stars (Ls x)) s
  exact ⟨x, stars_append.2 s⟩
theorem Imp.fold {ι : Type} {Ls : ι → List Assn} (x : ι) {M : List Assn} : Imp (Ls x ++ M) (exA Ls :: M) := fun _ s => stars_head_mono (fun _ hk => ⟨x, hk⟩) (stars_append.1 s)
/-- fold, the parts wherever they are -/
theorem Imp.foldP {ι : Type} {Ls : ι → List Assn} (x : ι) {L N M : List Assn} (p : Picks L (Ls x) N) (i : Imp (exA Ls :: N) M) : Imp L M := (p.imp.trans (Imp.fold x)).trans i
theorem Imp.appL {L M : List Assn} (i : Imp L M) : ∀ (E : List Assn), Imp (E ++ L) (E ++ M)
  | [] => i
  | _ :: E => (Imp.appL i E).cons
theorem Ent.of {A : Assn} {Ls L : List Assn} {R : Assn} (hu : Up A) (hA : ∀ k, A k → stars Ls k) (m : A ∈ L) (e : Ent Ls R) : Ent L R := Ent.mem m hu fun k a => e k (hA k a)
theorem Ent.at {A : Assn} {L : List Assn} (hu : Up A) (m : A ∈ L) : Ent L A := Ent.mem m hu fun _ a => a
theorem Ent.ofImp {L M : List Assn} (i : Imp L M) : Ent L (stars M) := fun h s => i h s
theorem Ent.ex {ι : Type} {Ls : ι → List Assn} {L : List Assn} (m : exA Ls ∈ L) : Ent L (exA Ls) := Ent.mem m (up_exA _) fun _ a => a
theorem Ent.exI {ι : Type} {Ls : ι → List Assn} {L : List Assn} (x : ι) (i : Imp L (Ls x)) : Ent L (exA Ls) := fun h s => ⟨x, i h s⟩
section
variable {G : Ctx} {N : Nat} {env : Env} {L M S : List Assn} {k : Kont} {ops : Array Oper} {rest : List Oper} {o : Oper} {c : Code} {ι : Type} {Ls : ι → List Assn}
theorem WC.open (i : Imp L (exA Ls :: M)) (h : ∀ x, WC G N c env (Ls x ++ M) k) : WC G N c env L k := .mk fun a w ha hs => by
  obtain ⟨x, s⟩ := stars_open (i.sat hs)
  exact (h x) a w ha s
theorem WL.open (i : Imp L (exA Ls :: M)) (h : ∀ x, WL G N ops rest env (Ls x ++ M) k) : WL G N ops rest env L k := .mk fun a w ha hs => by
  obtain ⟨x, s⟩ := stars_open (i.sat hs)
  exact (h x) a w ha s
theorem OP.open {post : Env → List Assn → Prop} (i : Imp L (exA Ls :: M)) (h : ∀ x, OP G N o env (Ls x ++ M) post) : OP G N o env L post := .mk fun a w ha hs => by
  obtain ⟨x, s⟩ := stars_open (i.sat hs)
  exact (h x) a w ha s
theorem RO.enterEx {f : FuncId} {fn : Func} {c : Code} {vs : List Value} {rs : List ResultVar} {v : Value} (hf : G.P.funcs[f]? = some fn) (hb : fn.body = some c) (hname : (fn.name == "runtime.NumGoroutine") = false) (hr : fn.results = rs.toArray) (hn : fn.ntmps = N)
    (hv : Nat.ble vs.length N = true) (h : ∀ x A, Up A → (∀ k, A k → stars (Ls x) k) → WC G N c (args0 0 vs) [A] (retK G rs (fun v' M => v' = v ∧ A ∈ M))) : RO G f vs (exA Ls) v :=
  ⟨⟨fn, c, hf, hname, hb⟩, fun w ⟨x, hw⟩ => (body_calls hf hb hr hn hv (h x (old w) (up_old w) (fun _ l => stars_mono l hw)) w (Sat.old w)).mono fun _ _ ⟨_, _, e, ⟨e1, e2⟩, s⟩ => ⟨by rw [e, e1], ext_of_old e2 s⟩⟩
theorem RT.enterEx {f : FuncId} {fn : Func} {c : Code} {vs : List Value} {rs : List ResultVar} {p : Value → List Assn → Prop} (hf : G.P.funcs[f]? = some fn) (hb : fn.body = some c) (hname : (fn.name == "runtime.NumGoroutine") = false) (hr : fn.results = rs.toArray) (hn : fn.ntmps = N)
    (hv : Nat.ble vs.length N = true) (h : ∀ x A, Up A → (∀ k, A k → stars (Ls x) k) → WC G N c (args0 0 vs) [A] (retK G rs (fun v M => ∃ E, p v E ∧ Imp M (E ++ [A])))) : RT G f vs (exA Ls) p := by
  refine ⟨⟨fn, c, hf, hname, hb⟩, fun M w he hs => ?_⟩
  obtain ⟨x, hx⟩ := he _ hs
  refine (body_calls hf hb hr hn hv (h x (fun k => stars M k ∧ stars (Ls x) k) (up_and (up_stars _) (up_stars _)) (fun _ a => a.2)) w (stars_one.1 hs |> fun _ => ?_)).mono ?_
  · exact ⟨hpOf w, Hp.empty, fun _ => .inr rfl, by funext b; simp [Hp.join, Hp.empty], ⟨hs, hx⟩, trivial⟩
  · rintro _ w' ⟨v, L, e, ⟨E, h1, h2⟩, s⟩
    exact ⟨v, E, e, h1, stars_app_one.2 (Imp.appL (fun _ s => stars_head_mono (fun _ a => a.1) s) E _ (h2 _ s))⟩
/-- a test parts the ways -/
theorem WC.split {c : Operand} {x y : Code} {p : Prop} [Decidable p] (hc : rd none env c = some (none, .bool (decide p))) (ht : p → WC G N x env L k) (hf : ¬ p → WC G N y env L k) : WC G N (.cond c x y) env L k :=
  .cond hc (fun h => ht (of_decide_eq_true h)) (fun h => hf (of_decide_eq_false h))
theorem WC.splitN {c : Operand} {x y : Code} {p : Prop} [Decidable p] (hc : rd none env c = some (none, .bool (!decide p))) (ht : ¬ p → WC G N x env L k) (hf : p → WC G N y env L k) : WC G N (.cond c x y) env L k :=
  .cond hc (fun h => ht (by simpa using h)) (fun h => hf (by simpa using h))
end
/-! ### elements of several cells -/
theorem flat_len {α : Type} {f : α → List Value} {z : Nat} (hz : ∀ x, (f x).length = z) : ∀ (l : List α), (l.flatMap f).length = l.length * z
  | [] => by simp
  | x :: l => by rw [List.flatMap_cons, List.length_append, hz, flat_len hz l, List.length_cons, Nat.succ_mul, Nat.add_comm]
theorem flat_drop {α : Type} {f : α → List Value} {z : Nat} (hz : ∀ x, (f x).length = z) : ∀ (l : List α) (k : Nat), (l.flatMap f).drop (k * z) = (l.drop k).flatMap f
  | [], k => by simp
  | x :: l, 0 => by simp
  | x :: l, k + 1 => by
    rw [List.flatMap_cons, List.drop_succ_cons, ← flat_drop hz l k, Nat.succ_mul, Nat.add_comm, ← List.drop_drop]
    congr 1
    rw [List.drop_append_of_le_length (by rw [hz]; exact Nat.le_refl _), List.drop_eq_nil_of_le (by rw [hz]; exact Nat.le_refl _), List.nil_append]
theorem flat_take {α : Type} {f : α → List Value} {z : Nat} (hz : ∀ x, (f x).length = z) : ∀ (l : List α) (k : Nat), (l.flatMap f).take (k * z) = (l.take k).flatMap f
  | [], k => by simp
  | x :: l, 0 => by simp
  | x :: l, k + 1 => by
    rw [List.flatMap_cons, List.take_succ_cons, List.flatMap_cons, ← flat_take hz l k, Nat.succ_mul, Nat.add_comm, List.take_append, List.take_of_length_le (by rw [hz]; omega), hz]
    congr 2
    omega
theorem flat_cut {α : Type} {f : α → List Value} {z : Nat} (hz : ∀ x, (f x).length = z) (l : List α) (k : Nat) (h : k < l.length) : f l[k] = ((l.flatMap f).drop (k * z)).take z := by
  rw [flat_drop hz, List.drop_eq_getElem_cons h, List.flatMap_cons, List.take_append_of_le_length (by rw [hz]; exact Nat.le_refl _), List.take_of_length_le (by rw [hz]; exact Nat.le_refl _)]
theorem flat_get {α : Type} {f : α → List Value} {z : Nat} (hz : ∀ x, (f x).length = z) (l : List α) (k j : Nat) (h : k < l.length) (hj : j < z) : (l.flatMap f)[k * z + j]? = (f l[k])[j]? := by
  rw [flat_cut hz l k h, List.getElem?_take, if_pos hj, List.getElem?_drop]
theorem flat_set {α : Type} {f : α → List Value} {z : Nat} (hz : ∀ x, (f x).length = z) : ∀ (l : List α) (k : Nat) (x : α), k < l.length → setMany (l.flatMap f) (k * z) (f x) = some ((l.set k x).flatMap f) := by
  intro l k x h
  have h1 : l.flatMap f = (l.take k).flatMap f ++ f l[k] ++ (l.drop (k + 1)).flatMap f := by
    conv => lhs; rw [← List.take_append_drop k l, List.drop_eq_getElem_cons h]
    rw [List.flatMap_append, List.flatMap_cons, List.append_assoc]
  have h2 : (l.set k x).flatMap f = (l.take k).flatMap f ++ f x ++ (l.drop (k + 1)).flatMap f := by
    rw [List.set_eq_take_append_cons_drop, if_pos h, List.flatMap_append, List.flatMap_cons, List.append_assoc]
  rw [h2, h1]
  have h3 := setMany_mid (f x) ((l.take k).flatMap f) (f l[k]) ((l.drop (k + 1)).flatMap f) (by rw [hz, hz])
  rw [flat_len hz, List.length_take, Nat.min_eq_left (by omega)] at h3
  exact h3
/-- a field of an element of a slice that is read -/
theorem Ent.elF {L : List Assn} {α : Type} {f : α → List Value} {z : Nat} (hz : ∀ x, (f x).length = z) {l : List α} {n k j b off : Nat} {v : Value} (hr : Ent L (readS (Option.some ⟨b, off, Option.none⟩) n z (l.flatMap f))) (h : k < l.length) (hj : Nat.blt j z = true) (hv : (f l[k])[j]? = Option.some v) :
    Ent L (cellAt b (off + k * z + j) v) := by
  rw [Nat.add_assoc]
  exact Ent.elem hr rfl ((flat_get hz l k j h (by simpa [Nat.blt_eq] using hj)).trans hv)
/-- an element as a whole -/
theorem Ent.elA {L : List Assn} {α : Type} {f : α → List Value} {z : Nat} (hz : ∀ x, (f x).length = z) {l : List α} {n k b off : Nat} (hr : Ent L (readS (Option.some ⟨b, off, Option.none⟩) n z (l.flatMap f))) (h : k < l.length) :
    Ent L (cellsAt b (off + k * z) (f l[k])) := Ent.elems hr rfl (by rw [hz]; exact flat_cut hz l k h)
theorem Ent.ofOwn {L : List Assn} {a : Option Addr} {n cap : Nat} {T : TypeId} {size : Nat} {cs : List Value} (m : ownS a n cap T size cs ∈ L) : Ent L (readS a n size cs) := Ent.own m
end Go.GL
/- Slices cut off at the front; a slice with three bounds; two pointers compared. -/
namespace Go.GL
open Go
theorem ownS_cut {a : Option Addr} {n cap l size : Nat} {T : TypeId} {cs : List Value} {h : Hp} (x : ownS a n cap T size cs h) (hl : l ≤ n) {cap' : Nat} (hc : n ≤ cap') (hcc : cap' ≤ cap) : ownS (cutA a cap' l size) (n - l) (cap' - l) T size (cs.drop (l * size)) h := by
  obtain ⟨e, le, hx⟩ := x
  have hsz : l * size ≤ cs.length := by rw [e]; exact Nat.mul_le_mul_right _ hl
  refine ⟨by rw [List.length_drop, e, Nat.sub_mul], by omega, ?_⟩
  rcases hx with ⟨rfl, rfl⟩ | ⟨b, pre, post, rfl, hcp, hb⟩
  · exact .inl ⟨cutA_none _ _ _, by omega⟩
  · right
    unfold cutA
    split
    · have e1 : n = l := by omega
      refine ⟨b, pre, cs ++ post, rfl, ?_, ?_⟩
      · have : cap' - l = 0 := by omega
        rw [this]; simp
      · have : cs.drop (l * size) = [] := List.drop_eq_nil_of_le (by rw [e, e1]; exact Nat.le_refl _)
        rw [this, List.append_nil, ← List.append_assoc]; exact hb
    · refine ⟨b, pre ++ cs.take (l * size), post, ?_, ?_, ?_⟩
      · rw [List.length_append, List.length_take, Nat.min_eq_left hsz]
        simp [addr_add]
      · have : cap' * size ≤ cap * size := Nat.mul_le_mul_right _ hcc
        rw [Nat.sub_mul, List.length_drop]; omega
      · rw [List.append_assoc pre, List.take_append_drop]; exact hb
theorem Imp.ownCut {a : Option Addr} {n cap l size : Nat} {T : TypeId} {cs : List Value} {L : List Assn} (hl : l ≤ n) {cap' : Nat} (hc : n ≤ cap') (hcc : cap' ≤ cap) : Imp (ownS a n cap T size cs :: L) (ownS (cutA a cap' l size) (n - l) (cap' - l) T size (cs.drop (l * size)) :: L) := fun _ s => stars_head_mono (fun _ x => ownS_cut x hl hc hcc) s
theorem equalIn_ptr_self {P : Program} {t e : TypeId} {te : TI} (d : Nat) (h : P.underlying t = some (.pointer e)) (he : TIOk P e te) (a : Addr) (w : World) : (Op.equalIn (d + 1) t (.pointer (some a)) (.pointer (some a))).run P w = .ok true w := by
  have h1 : (a == a) = true := by simp
  simp [Op.equalIn, run_underlying h, run_size he, sameAddr]
section
variable {G : Ctx} {N : Nat} {env : Env} {L : List Assn} {o : Oper} {post : Env → List Assn → Prop} {d : Nat}
theorem OP.slice3 {t e : TypeId} {x lo hi mx : Operand} {tsl te : TI} {a : Option Addr} {n cap l h m : Nat} {li hj mk : Int} (ho : o.op = .slice t x (some lo) (some hi) (some mx)) (hx : rd none env x = some (none, .slice a n cap))
    (hlo : rd none env lo = some (none, .int .i64 li)) (hhi : rd none env hi = some (none, .int .i64 hj)) (hmx : rd none env mx = some (none, .int .i64 mk)) (ht : G.T.find t = some tsl) (htd : tsl.desc = .slice e) (hte : G.T.find e = some te)
    (el : li = l) (eh : hj = h) (em : mk = m) (h1 : l ≤ h) (h2 : h ≤ m) (h3 : m ≤ cap) (hd : o.dst = some d) (hN : Nat.blt d N = true)
    (k : post ((d, .val (.slice (cutA a m l te.size) (h - l) (m - l))) :: env) L) : OP G N o env L post :=
  .run (fun ac w ha _ => by
    subst el eh em
    have hu : G.P.underlying t = some (.slice e) := htd ▸ (Tab.find_ok G.ok ht).desc
    have b1 : (Instr.sliceBound (.int .i64 (m : Int)) cap .slice3Acap).run G.P w = .ok m w := by
      rw [bound_ok _ (Int.natCast_nonneg m) (by omega)]; rfl
    have b2 : (Instr.sliceBound (.int .i64 (h : Int)) m .slice3B).run G.P w = .ok h w := by
      rw [bound_ok _ (Int.natCast_nonneg h) (by omega)]; rfl
    have b3 : (Instr.sliceBound (.int .i64 (l : Int)) h .slice3C).run G.P w = .ok l w := by
      rw [bound_ok _ (Int.natCast_nonneg l) (by omega)]; rfl
    rw [execOp, ho]
    refine val_run ?_
    simp [rd_plain hx ha, rd_plain hlo ha, rd_plain hhi ha, rd_plain hmx ha, Instr.sliceAt, Instr.slice, Instr.sliceBounds, run_underlying hu, b1, b2, b3, run_size (Tab.find_ok G.ok hte), cutA]) hd hN k
theorem OP.ptrNe {t e : TypeId} {x y : Operand} {t2 : TypeId} {ti : TI} {a b : Addr} (ho : o.op = .binOp .neq t x y t2) (hx : rd none env x = some (none, .pointer (some a))) (hy : rd none env y = some (none, .pointer (some b)))
    {te : TI} (ht : G.T.find t = some ti) (htd : ti.desc = .pointer e) (hte : G.T.find e = some te) (hab : a = b) (hd : o.dst = some d) (hN : Nat.blt d N = true)
    (k : post ((d, .val (.bool false)) :: env) L) : OP G N o env L post :=
  .run (fun ac w ha _ => by
    subst hab
    have hu : G.P.underlying t = some (.pointer e) := htd ▸ (Tab.find_ok G.ok ht).desc
    rw [execOp, ho]
    simp only [rd_plain hx ha, rd_plain hy ha]
    refine val_run ?_
    have h1 := equalIn_ptr_self (P := G.P) 9999 hu (Tab.find_ok G.ok hte) a w
    simp only [Sem.run_bind, guard_free (op := .neq) (t := t) (x := x) (y := y) (a := .pointer (some a)) (b := .pointer (some a)) (by simp) (by simp), Result.andThen_ok]
    exact bin_ne rfl h1) hd hN k
end
theorem Imp.pureB {L : List Assn} {p : Prop} (h : p) : Imp L ((fun _ => p) :: L) := fun k s => ⟨Hp.empty, k, fun _ => .inl rfl, by funext b; simp [Hp.join, Hp.empty], h, s⟩
/-- A contract that only makes new memory, for whatever hidden things. -/
theorem RT.ofEx {G : Ctx} {ι : Type} {f : FuncId} {args : List Value} {R : ι → Assn} {p : Value → List Assn → Prop} (en : Enters G.P f) (hu : ∀ x, Up (R x)) (H : ∀ x h, R x h → RT G f args (R x) p) : RT G f args (fun h => ∃ x, R x h) p := by
  refine ⟨en, fun M w he hs => ?_⟩
  obtain ⟨x, hx⟩ := he _ hs
  have huA : Up (fun k => stars M k ∧ R x k) := up_and (up_stars M) (hu x)
  refine ((H x _ hx).calls [fun k => stars M k ∧ R x k] w (fun k s => (stars_head s huA).2) ⟨hpOf w, Hp.empty, fun _ => .inr rfl, by funext b; simp [Hp.join, Hp.empty], ⟨hs, hx⟩, trivial⟩).mono ?_
  rintro e w' ⟨v, E, e1, hp, s⟩
  exact ⟨v, E, e1, hp, stars_app_one.2 (Imp.appL (L := [fun k => stars M k ∧ R x k]) (M := [stars M]) (fun _ s => stars_head_mono (fun _ a => a.1) s) E _ s)⟩
theorem RO.ofEx {G : Ctx} {ι : Type} {f : FuncId} {args : List Value} {R : ι → Assn} {v : Value} (en : Enters G.P f) (H : ∀ x h, R x h → RO G f args (R x) v) : RO G f args (fun h => ∃ x, R x h) v :=
  ⟨en, fun w ⟨x, hx⟩ => (H x _ hx).calls w hx⟩
theorem Triple.ofEx {G : Ctx} {ι : Type} {f : FuncId} {args : List Value} {Ls : ι → List Assn} {pre : List Assn} {p : Value → List Assn → Prop} (en : Enters G.P f) (H : ∀ x h, stars (Ls x) h → Triple G f args (Ls x ++ pre) p) : Triple G f args (exA Ls :: pre) p := by
  refine ⟨en, fun F w hs => ?_⟩
  obtain ⟨h1, h2, d, e, ⟨x, a⟩, s⟩ := hs
  refine (H x _ a).calls F w ?_
  unfold Sat
  rw [List.append_assoc]
  exact stars_append.2 ⟨h1, h2, d, e, a, s⟩
end Go.GL
/- Stores into what a slice owns. -/
namespace Go.GL
open Go
theorem setMany_app : ∀ (vs pre cs post : List Value) (i : Nat) {cs' : List Value}, setMany cs i vs = some cs' → setMany (pre ++ cs ++ post) (pre.length + i) vs = some (pre ++ cs' ++ post) ∧ cs'.length = cs.length
  | [], pre, cs, post, i, cs', h => by cases h; exact ⟨rfl, rfl⟩
  | v :: vs, pre, cs, post, i, cs', h => by
    simp only [setMany] at h
    split at h
    · rename_i c2 hc2
      obtain ⟨e, hlt⟩ := setOne_eq hc2
      obtain ⟨h1, h2⟩ := setMany_app vs pre c2 post (i + 1) h
      have h3 : setOne (pre ++ cs ++ post) (pre.length + i) v = some (pre ++ c2 ++ post) := by
        rw [setOne_lt _ (by simp; omega), e]
        congr 1
        rw [List.append_assoc, List.set_append_right _ _ (by omega), Nat.add_sub_cancel_left, List.set_append_left _ _ hlt, List.append_assoc]
      simp only [setMany, h3]
      exact ⟨h1, h2.trans (by rw [e, List.length_set])⟩
    · cases h
section
variable {G : Ctx} {N : Nat} {env : Env} {L : List Assn} {o : Oper} {post : Env → List Assn → Prop}
/-- a store into an element -/
theorem OP.storeO {t : TypeId} {x y : Operand} {b off i n cap size : Nat} {T : TypeId} {ti : TI} {v : Value} {vs cs cs' : List Value} {F : List Assn} (ho : o.op = .store t x y) (hx : rd none env x = some (none, .pointer (some ⟨b, off + i, none⟩)))
    (hy : rd none env y = some (none, v)) (ht : G.T.find t = some ti) (hv : cellsOf v = some vs) (h1 : allOne vs = true) (hl : vs.length = ti.size) (hL : Imp L (ownS (some ⟨b, off, none⟩) n cap T size cs :: F)) (hs : setMany cs i vs = some cs') (hd : o.dst = none)
    (h : post env (ownS (some ⟨b, off, none⟩) n cap T size cs' :: F)) : OP G N o env L post := .mk fun a w ha hsat => by
  obtain ⟨h1', h2, d, e', ⟨hcl, hle, hown⟩, rest⟩ := hL.sat hsat
  rcases hown with ⟨e, _⟩ | ⟨b', pre, post', e, hcap, hblk⟩
  · cases e
  · obtain ⟨hb, hoff⟩ : b = b' ∧ off = pre.length := by
      simp only [Option.some.injEq, Addr.mk.injEq] at e; exact ⟨e.1, e.2.1⟩
    subst hb hoff
    obtain ⟨s1, s2⟩ := setMany_app vs pre cs post' i hs
    have hsat' : Sat (blk b (pre ++ cs ++ post') T :: F) w := ⟨h1', h2, d, e', hblk, rest⟩
    refine wp_oper_mono ?_ (fun _ _ _ h => h) ((OP.store (G := G) (N := N) (L := blk b (pre ++ cs ++ post') T :: F) (post := fun e M => e = env ∧ M = blk b (pre ++ cs' ++ post') T :: F) ho hx hy ht hv h1 hl (UpdM.here s1) hd ⟨rfl, rfl⟩).go a w ha hsat')
    rintro a' w' ⟨e1, M, x, y, rfl, rfl⟩
    exact ⟨e1, _, x, stars_head_mono (fun k hk => ⟨s2.trans hcl, hle, .inr ⟨b, pre, post', rfl, by rw [s2]; exact hcap, hk⟩⟩) y, h⟩
end
/-! ### elements of several cells, where the elements of the list at hand have so many -/
theorem flatM_len {α : Type} {f : α → List Value} {z : Nat} : ∀ {l : List α}, (∀ x ∈ l, (f x).length = z) → (l.flatMap f).length = l.length * z
  | [], _ => by simp
  | x :: l, h => by rw [List.flatMap_cons, List.length_append, h x List.mem_cons_self, flatM_len (fun y hy => h y (List.mem_cons_of_mem _ hy)), List.length_cons, Nat.succ_mul, Nat.add_comm]
theorem flatM_drop {α : Type} {f : α → List Value} {z : Nat} : ∀ {l : List α} (_ : ∀ x ∈ l, (f x).length = z) (k : Nat), (l.flatMap f).drop (k * z) = (l.drop k).flatMap f
  | [], _, k => by simp
  | x :: l, _, 0 => by simp
  | x :: l, h, k + 1 => by
    have hx := h x List.mem_cons_self
    rw [List.flatMap_cons, List.drop_succ_cons, ← flatM_drop (fun y hy => h y (List.mem_cons_of_mem _ hy)) k, Nat.succ_mul, Nat.add_comm, ← List.drop_drop]
    congr 1
    rw [List.drop_append_of_le_length (by rw [hx]; exact Nat.le_refl _), List.drop_eq_nil_of_le (by rw [hx]; exact Nat.le_refl _), List.nil_append]
theorem flatM_cut {α : Type} {f : α → List Value} {z : Nat} {l : List α} (h : ∀ x ∈ l, (f x).length = z) {k : Nat} (hk : k < l.length) : f l[k] = ((l.flatMap f).drop (k * z)).take z := by
  have hx := h l[k] (List.getElem_mem hk)
  rw [flatM_drop h, List.drop_eq_getElem_cons hk, List.flatMap_cons, List.take_append_of_le_length (by rw [hx]; exact Nat.le_refl _), List.take_of_length_le (by rw [hx]; exact Nat.le_refl _)]
theorem flatM_get {α : Type} {f : α → List Value} {z : Nat} {l : List α} (h : ∀ x ∈ l, (f x).length = z) {k j : Nat} (hk : k < l.length) (hj : j < z) : (l.flatMap f)[k * z + j]? = (f l[k])[j]? := by
  rw [flatM_cut h hk, List.getElem?_take, if_pos hj, List.getElem?_drop]
theorem flatM_set {α : Type} {f : α → List Value} {z : Nat} {l : List α} (h : ∀ x ∈ l, (f x).length = z) {k : Nat} {x : α} (hk : k < l.length) (hx : (f x).length = z) : setMany (l.flatMap f) (k * z) (f x) = some ((l.set k x).flatMap f) := by
  have h1 : l.flatMap f = (l.take k).flatMap f ++ f l[k] ++ (l.drop (k + 1)).flatMap f := by
    conv => lhs; rw [← List.take_append_drop k l, List.drop_eq_getElem_cons hk]
    rw [List.flatMap_append, List.flatMap_cons, List.append_assoc]
  have h2 : (l.set k x).flatMap f = (l.take k).flatMap f ++ f x ++ (l.drop (k + 1)).flatMap f := by
    rw [List.set_eq_take_append_cons_drop, if_pos hk, List.flatMap_append, List.flatMap_cons, List.append_assoc]
  rw [h2, h1]
  have h3 := setMany_mid (f x) ((l.take k).flatMap f) (f l[k]) ((l.drop (k + 1)).flatMap f) (by rw [hx, h _ (List.getElem_mem hk)])
  rw [flatM_len (z := z) (fun y hy => h y (List.mem_of_mem_take hy)), List.length_take, Nat.min_eq_left (by omega)] at h3
  exact h3
theorem Ent.elMF {L : List Assn} {α : Type} {f : α → List Value} {z : Nat} {l : List α} (hz : ∀ x ∈ l, (f x).length = z) {n k j b off : Nat} {v : Value} (hr : Ent L (readS (Option.some ⟨b, off, Option.none⟩) n z (l.flatMap f))) (h : k < l.length) (hj : Nat.blt j z = true) (hv : (f l[k])[j]? = Option.some v) :
    Ent L (cellAt b (off + k * z + j) v) := by
  rw [Nat.add_assoc]
  exact Ent.elem hr rfl ((flatM_get hz h (by simpa [Nat.blt_eq] using hj)).trans hv)
theorem Ent.elMA {L : List Assn} {α : Type} {f : α → List Value} {z : Nat} {l : List α} (hz : ∀ x ∈ l, (f x).length = z) {n k b off : Nat} (hr : Ent L (readS (Option.some ⟨b, off, Option.none⟩) n z (l.flatMap f))) (h : k < l.length) :
    Ent L (cellsAt b (off + k * z) (f l[k])) := Ent.elems hr rfl (by rw [hz _ (List.getElem_mem h)]; exact flatM_cut hz h)
theorem setMany_all {old vs : List Value} (h : old.length = vs.length) : setMany old 0 vs = some vs := by
  have := setMany_mid vs [] old [] h
  simpa using this
theorem takeL_all : ∀ (l : List Value), takeL l l.length = some l
  | [] => rfl
  | x :: r => by simp only [List.length_cons, takeL, takeL_all r]
theorem cutL_all {l : List Value} {n : Nat} (h : l.length = n) : cutL l 0 n = some l := by subst h; cases l <;> exact takeL_all _
end Go.GL
/- copy; function values, and calls of them. -/
namespace Go.GL
open Go
section
variable {G : Ctx} {N : Nat} {env : Env} {L : List Assn} {o : Oper} {post : Env → List Assn → Prop} {d : Nat}
theorem run_firstCellsK {P : Program} {w : World} {a : Option Addr} {n k size c : Nat} {cs : List Value} (h : readS a n size cs (hpOf w)) (hk : k ≤ n) : (Builtin.firstCells size k (.slice a n c)).run P w = .ok (cs.take (k * size)).toArray w := by
  have h2 := readS_take h hk
  obtain ⟨e, ⟨rfl, rfl⟩ | ⟨b, off, rfl, hc⟩⟩ := h2
  · have : cs.take (0 * size) = [] := by simp
    rw [this]
    simp only [Builtin.firstCells, Sem.run_pure]; try rfl
  · have := run_cells (P := P) hc (cs.take (k * size)).length 0 #[] (by omega)
    simp only [List.drop_zero, Array.empty_append] at this
    rw [e] at this
    simp only [Builtin.firstCells, loadCells, this]
/-- copy(x, y), x cells of a block -/
theorem OP.copyB {x y : Operand} {t t2 e : TypeId} {ti tsl : TI} {b off n cap m c2 sz : Nat} {a2 : Option Addr} {ds vs : List Value} {M : List Assn} (ho : o.op = .call ⟨.builtin .copy, #[x, y], #[t, t2]⟩)
    (hx : rd none env x = some (none, .slice (some ⟨b, off, none⟩) n cap)) (hy : rd none env y = some (none, .slice a2 m c2)) (ht : G.T.find t = some tsl) (htd : tsl.desc = .slice e) (hte : G.T.find e = some ti) (hsz : sizeL ti = some sz)
    (hr : Ent L (readS a2 m sz ds)) (hv : ds.take (min m n * sz) = vs) (hone : allOne vs = true) (hu : UpdM L b off vs M) (hd : o.dst = some d) (hN : Nat.blt d N = true) (h : post ((d, .val (.int .i64 (min m n : Nat))) :: env) M) : OP G N o env L post := .mk fun ac w ha hs => by
  have es := sizeL_eq hsz
  have hu1 : G.P.underlying t = some (.slice e) := htd ▸ (Tab.find_ok G.ok ht).desc
  have eE := Tab.find_ok G.ok hte
  obtain ⟨c, c', T, hc, hu⟩ := hu.upd
  obtain ⟨w', r, s⟩ := run_stores (P := G.P) vs off 0 c c' L M w (allOne_mem hone) hc hu hs
  have hf := run_firstCellsK (P := G.P) (c := c2) (hr _ hs) (show min m n ≤ m from Nat.min_le_left _ _)
  rw [hv] at hf
  unfold Oper.wp
  have : (execOp ac.eval o).run G.P w = .ok (.value (.int .i64 (min m n : Nat))) w' := by
    rw [execOp, ho]
    have hmin : Nat.min m n = min m n := rfl
    simp [resolve, invoke, builtin, rd_plain hx ha, rd_plain hy ha, Builtin.copy_, run_underlying hu1, Builtin.lenOf, run_size eE, es, hmin, hf, r, goInt]
  rw [this]
  simp only [Oper.upon, hd]
  exact ⟨_, _, ha.put hN _, s, h⟩
/-- a function value with what it has caught -/
theorem OP.makeF {f : FuncId} {xs : List Operand} {vs : List Value} (ho : o.op = .makeFunc (.func f) #[] xs.toArray) (hv : rdAll env xs = some vs) (hd : o.dst = some d) (hN : Nat.blt d N = true) (h : post ((d, .val (.func (.func f) #[] vs.toArray)) :: env) L) : OP G N o env L post :=
  .run (fun a w ha _ => by
    rw [execOp, ho]
    have := rdAll_ok ha hv
    simp [Instr.makeFunc, ← this]) hd hN h
theorem run_callV {P : Program} {f : FuncId} {x : Operand} {xs : List Operand} {ats : Array TypeId} {a : Act} {vs caps : List Value} (he : Enters P f) (hx : a.eval x = .func (.func f) #[] caps.toArray) (hv : xs.map a.eval = vs) (dst : Option Tmp) (ty : TypeId) (pos : String) (after : Array Edge) (guard : Option (Nat × Bool)) (w : World) :
    (execOp a.eval ⟨dst, .call ⟨.value x, xs.toArray, ats⟩, ty, pos, after, guard⟩).run P w = .ok (.enter f (vs ++ caps).toArray) w := by
  obtain ⟨fn, c, h1, h2, h3⟩ := he.ex
  simp only [execOp, resolve, hx, Deferred.ofValue, Sem.run_bind, Sem.run_pure, Result.andThen_ok, invoke, callFunc, run_program, h1]
  simp [h2, h3, ← hv]
/-- a call of a function value -/
theorem OP.callV {f : FuncId} {x : Operand} {xs : List Operand} {ats : Array TypeId} {vs caps : List Value} {pre F : List Assn} {p : Value → List Assn → Prop} (ho : o.op = .call ⟨.value x, xs.toArray, ats⟩) (hx : rd none env x = some (none, .func (.func f) #[] caps.toArray)) (hv : rdAll env xs = some vs)
    (ht : Triple G f (vs ++ caps) pre p) (hi : Imp L (pre ++ F)) (hd : o.dst = some d) (hN : Nat.blt d N = true) (h : ∀ v M, p v M → post ((d, .val v) :: env) (M ++ F)) : OP G N o env L post := .mk fun a w ha hs => by
  obtain ⟨dst, op, type, pos, after, guard⟩ := o
  simp only at ho hd
  subst ho hd
  unfold Oper.wp
  rw [run_callV ht.enters (rd_plain hx ha) (rdAll_ok ha hv)]
  simp only [Oper.upon]
  refine (ht.calls F w (hi.sat hs)).mono ?_
  rintro e w' ⟨v, M, rfl, hp, s⟩
  exact ⟨_, _, ha.put hN v, s, h v M hp⟩
theorem OP.callVRO {f : FuncId} {x : Operand} {xs : List Operand} {ats : Array TypeId} {vs caps : List Value} {R : Assn} {v : Value} (ho : o.op = .call ⟨.value x, xs.toArray, ats⟩) (hx : rd none env x = some (none, .func (.func f) #[] caps.toArray)) (hv : rdAll env xs = some vs)
    (ht : RO G f (vs ++ caps) R v) (he : Ent L R) (hd : o.dst = some d) (hN : Nat.blt d N = true) (h : post ((d, .val v) :: env) L) : OP G N o env L post :=
  .callV (F := []) ho hx hv (ht.triple he) (by rw [List.append_nil]; exact Imp.refl _) hd hN (fun v' M ⟨e1, e2⟩ => by rw [List.append_nil, e1, e2]; exact h)
end
/-- a slice's literal of one part that has several cells -/
theorem evLit1 {T : Tab} {env : Env} {e : Nat} {ti : TI} {y : Operand} {vs : List Value} (ht : T.find e = some ti) (hy : rd none env y = some (none, .agg vs.toArray)) (hl : vs.length = ti.size) (hz : ti.zero.length = ti.size) (h1 : Nat.ble ti.size 1000 = true) (h2 : Nat.ble 1 ti.size = true) : evSliceLit T env e 1 [(0, y)] = some vs := by
  unfold evSliceLit
  rw [ht]
  have hp : rdParts env [(0, y)] = some [(0, .agg vs.toArray)] := by simp only [rdParts, hy]
  rw [hp]
  simp only [Nat.one_mul, h1, h2]
  have hr : repL ti.zero 1 = ti.zero := by simp [repL]
  rw [hr]
  have hb : Nat.beq vs.length ti.size = true := by rw [hl]; exact Nat.beq_refl _
  have hs := setMany_all (old := ti.zero) (vs := vs) (by rw [hz, hl])
  show (match (match Nat.blt 0 1 with | true => some (0 * ti.size, ti.size) | false => none), cellsOf (.agg vs.toArray) with
    | some (off, size), some vs => (match Nat.beq vs.length size, setMany ti.zero off vs with
      | true, some c' => fillL _ c' []
      | _, _ => none)
    | _, _ => none) = some vs
  simp only [Nat.zero_mul, cellsOf, hb, hs, fillL, Nat.blt]
theorem retc2 {G : Ctx} {env : Env} {L : List Assn} {p : Value → List Assn → Prop} {t u ty b off : Nat} {ti : TI} {v : Value} {l : List Value} (h2 : Env.get env u = some (.val (.pointer (some ⟨b, off, none⟩)))) (h1 : Env.get env t = some (.val v)) (ht : G.T.find ty = some ti) (hg : ti.agg = true) (hl : l.length = ti.size) (hc : Ent L (cellsAt b off l)) (h : p (.tuple #[.agg l.toArray, v]) L) :
    retK G [.cell u ty, .tmp t] p .ret env L := ⟨[.agg l.toArray, v], ⟨b, off, _, [v], ti, rfl, h2, ht, .inr ⟨hg, l, rfl, hl, hc⟩, v, [], rfl, h1, rfl⟩, h⟩
/-- a body that has a label, to which nothing jumps -/
def scopeK (k : Kont) : Kont
  | .goto _, _, _ => False
  | e, env, L => k e env L
theorem WC.scope {G : Ctx} {N : Nat} {env : Env} {L : List Assn} {k : Kont} {c : Code} (h : WC G N c env L (scopeK k)) : WC G N (.scope c) env L k := .mk fun a w ha hs =>
  wp_scope_straight (Code.wp_mono (fun e a w ⟨env, L, x, s, z⟩ => by
    cases e with
    | goto l => exact z
    | _ => exact ⟨env, L, x, s, z⟩) (h.go a w ha hs))
theorem scopeK.normal {k : Kont} {env : Env} {L : List Assn} (h : k .normal env L) : scopeK k .normal env L := h
theorem scopeK.exit {k : Kont} {env : Env} {L : List Assn} {i : Nat} (h : k (.exit i) env L) : scopeK k (.exit i) env L := h
theorem scopeK.ret {k : Kont} {env : Env} {L : List Assn} (h : k .ret env L) : scopeK k .ret env L := h
end Go.GL
/- an element of several cells of an array that is a value. -/
namespace Go.GL
open Go
section
variable {G : Ctx} {N : Nat} {env : Env} {L : List Assn} {o : Oper} {post : Env → List Assn → Prop} {d : Nat}
theorem OP.indexA {t e : TypeId} {x ix : Operand} {ti te : TI} {k : IntKind} {i len : Nat} {cs vs : List Value} (ho : o.op = .index t x ix) (hx : rd none env x = some (none, .agg cs.toArray)) (hi : rd none env ix = some (none, .int k i))
    (ht : G.T.find t = some ti) (hd1 : ti.desc = .array len e) (hte : G.T.find e = some te) (hag : te.agg = true) (hlt : i < len) (hv : (cs.drop (i * te.size)).take te.size = vs) (hd : o.dst = some d) (hN : Nat.blt d N = true) (h : post ((d, .val (.agg vs.toArray)) :: env) L) : OP G N o env L post :=
  .run (fun a w ha _ => by
    have u : G.P.underlying t = some (.array len e) := hd1 ▸ (Tab.find_ok G.ok ht).desc
    rw [execOp, ho]
    simp [Instr.index, rd_plain hx ha, rd_plain hi ha, asIntOf, run_underlying u, run_size (Tab.find_ok G.ok hte), part, run_isAgg (Tab.find_ok G.ok hte), hag, hlt, hv]) hd hN h
end
end Go.GL
