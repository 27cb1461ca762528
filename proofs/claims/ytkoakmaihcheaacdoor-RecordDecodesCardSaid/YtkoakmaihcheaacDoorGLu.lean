/- Memory under a name: predicates that hide their addresses; reading out of memory that is lent. -/
import Derived.Test.YtkoakmaihcheaacDoorGLt
namespace Go.GL
open Go
/-- There is an x for which these hold of separate parts. -/
def exA {ι : Type} (Ls : ι → List Assn) : Assn := fun h => ∃ x, stars (Ls x) h
theorem up_exA {ι : Type} (Ls : ι → List Assn) : Up (exA Ls) := fun _ _ l ⟨x, s⟩ => ⟨x, stars_mono l s⟩
theorem stars_open {ι : Type} {Ls : ι → List Assn} {L : List Assn} {h : Hp} (s : stars (exA Ls :: L) h) : ∃ x, stars (Ls x ++ L) h := by
  obtain ⟨x, s⟩ := stars_ex (A := fun x => stars (Ls x)) s
  exact ⟨x, stars_append.2 s⟩
theorem Imp.fold {ι : Type} {Ls : ι → List Assn} (x : ι) {M : List Assn} : Imp (Ls x ++ M) (exA Ls :: M) := fun _ s => stars_head_mono (fun _ hk => ⟨x, hk⟩) (stars_append.1 s)
/-- fold, the parts wherever they are -/
theorem Imp.foldP {ι : Type} {Ls : ι → List Assn} (x : ι) {L N M : List Assn} (p : Picks L (Ls x) N) (i : Imp (exA Ls :: N) M) : Imp L M := (p.imp.trans (Imp.fold x)).trans i
theorem Imp.appL {L M : List Assn} (i : Imp L M) : ∀ (E : List Assn), Imp (E ++ L) (E ++ M)
  | [] => i
  | _ :: E => (Imp.appL i E).cons
theorem Ent.of {A : Assn} {Ls L : List Assn} {R : Assn} (hu : Up A) (hA : ∀ k, A k → stars Ls k) (m : A ∈ L) (e : Ent Ls R) : Ent L R := Ent.mem m hu fun k a => e k (hA k a)
theorem Ent.at {A : Assn} {L : List Assn} (hu : Up A) (m : A ∈ L) : Ent L A := Ent.mem m hu fun _ a => a
theorem Ent.ofImp {L M : List Assn} (i : Imp L M) : Ent L (stars M) := fun h s => i h s
theorem Ent.ex {ι : Type} {Ls : ι → List Assn} {L : List Assn} (m : exA Ls ∈ L) : Ent L (exA Ls) := Ent.mem m (up_exA _) fun _ a => a
theorem Ent.exI {ι : Type} {Ls : ι → List Assn} {L : List Assn} (x : ι) (i : Imp L (Ls x)) : Ent L (exA Ls) := fun h s => ⟨x, i h s⟩
section
variable {G : Ctx} {N : Nat} {env : Env} {L M S : List Assn} {k : Kont} {ops : Array Oper} {rest : List Oper} {o : Oper} {c : Code} {ι : Type} {Ls : ι → List Assn}
theorem WC.open (i : Imp L (exA Ls :: M)) (h : ∀ x, WC G N c env (Ls x ++ M) k) : WC G N c env L k := .mk fun a w ha hs => by
  obtain ⟨x, s⟩ := stars_open (i.sat hs)
  exact (h x) a w ha s
theorem WL.open (i : Imp L (exA Ls :: M)) (h : ∀ x, WL G N ops rest env (Ls x ++ M) k) : WL G N ops rest env L k := .mk fun a w ha hs => by
  obtain ⟨x, s⟩ := stars_open (i.sat hs)
  exact (h x) a w ha s
theorem OP.open {post : Env → List Assn → Prop} (i : Imp L (exA Ls :: M)) (h : ∀ x, OP G N o env (Ls x ++ M) post) : OP G N o env L post := .mk fun a w ha hs => by
  obtain ⟨x, s⟩ := stars_open (i.sat hs)
  exact (h x) a w ha s
theorem RO.enterEx {f : FuncId} {fn : Func} {c : Code} {vs : List Value} {rs : List ResultVar} {v : Value} (hf : G.P.funcs[f]? = some fn) (hb : fn.body = some c) (hname : (fn.name == "runtime.NumGoroutine") = false) (hr : fn.results = rs.toArray) (hn : fn.ntmps = N)
    (hv : Nat.ble vs.length N = true) (h : ∀ x A, Up A → (∀ k, A k → stars (Ls x) k) → WC G N c (args0 0 vs) [A] (retK G rs (fun v' M => v' = v ∧ A ∈ M))) : RO G f vs (exA Ls) v :=
  ⟨⟨fn, c, hf, hname, hb⟩, fun w ⟨x, hw⟩ => (body_calls hf hb hr hn hv (h x (old w) (up_old w) (fun _ l => stars_mono l hw)) w (Sat.old w)).mono fun _ _ ⟨_, _, e, ⟨e1, e2⟩, s⟩ => ⟨by rw [e, e1], ext_of_old e2 s⟩⟩
theorem RT.enterEx {f : FuncId} {fn : Func} {c : Code} {vs : List Value} {rs : List ResultVar} {p : Value → List Assn → Prop} (hf : G.P.funcs[f]? = some fn) (hb : fn.body = some c) (hname : (fn.name == "runtime.NumGoroutine") = false) (hr : fn.results = rs.toArray) (hn : fn.ntmps = N)
    (hv : Nat.ble vs.length N = true) (h : ∀ x A, Up A → (∀ k, A k → stars (Ls x) k) → WC G N c (args0 0 vs) [A] (retK G rs (fun v M => ∃ E, p v E ∧ Imp M (E ++ [A])))) : RT G f vs (exA Ls) p := by
  refine ⟨⟨fn, c, hf, hname, hb⟩, fun M w he hs => ?_⟩
  obtain ⟨x, hx⟩ := he _ hs
  refine (body_calls hf hb hr hn hv (h x (fun k => stars M k ∧ stars (Ls x) k) (up_and (up_stars _) (up_stars _)) (fun _ a => a.2)) w (stars_one.1 hs |> fun _ => ?_)).mono ?_
  · exact ⟨hpOf w, Hp.empty, fun _ => .inr rfl, by funext b; simp [Hp.join, Hp.empty], ⟨hs, hx⟩, trivial⟩
  · rintro _ w' ⟨v, L, e, ⟨E, h1, h2⟩, s⟩
    exact ⟨v, E, e, h1, stars_app_one.2 (Imp.appL (fun _ s => stars_head_mono (fun _ a => a.1) s) E _ (h2 _ s))⟩
/-- a test parts the ways -/
theorem WC.split {c : Operand} {x y : Code} {p : Prop} [Decidable p] (hc : rd none env c = some (none, .bool (decide p))) (ht : p → WC G N x env L k) (hf : ¬ p → WC G N y env L k) : WC G N (.cond c x y) env L k :=
  .cond hc (fun h => ht (of_decide_eq_true h)) (fun h => hf (of_decide_eq_false h))
theorem WC.splitN {c : Operand} {x y : Code} {p : Prop} [Decidable p] (hc : rd none env c = some (none, .bool (!decide p))) (ht : ¬ p → WC G N x env L k) (hf : p → WC G N y env L k) : WC G N (.cond c x y) env L k :=
  .cond hc (fun h => ht (by simpa using h)) (fun h => hf (by simpa using h))
end
/-! ### elements of several cells -/
theorem flat_len {α : Type} {f : α → List Value} {z : Nat} (hz : ∀ x, (f x).length = z) : ∀ (l : List α), (l.flatMap f).length = l.length * z
  | [] => by simp
  | x :: l => by rw [List.flatMap_cons, List.length_append, hz, flat_len hz l, List.length_cons, Nat.succ_mul, Nat.add_comm]
theorem flat_drop {α : Type} {f : α → List Value} {z : Nat} (hz : ∀ x, (f x).length = z) : ∀ (l : List α) (k : Nat), (l.flatMap f).drop (k * z) = (l.drop k).flatMap f
  | [], k => by simp
  | x :: l, 0 => by simp
  | x :: l, k + 1 => by
    rw [List.flatMap_cons, List.drop_succ_cons, ← flat_drop hz l k, Nat.succ_mul, Nat.add_comm, ← List.drop_drop]
    congr 1
    rw [List.drop_append_of_le_length (by rw [hz]; exact Nat.le_refl _), List.drop_eq_nil_of_le (by rw [hz]; exact Nat.le_refl _), List.nil_append]
theorem flat_take {α : Type} {f : α → List Value} {z : Nat} (hz : ∀ x, (f x).length = z) : ∀ (l : List α) (k : Nat), (l.flatMap f).take (k * z) = (l.take k).flatMap f
  | [], k => by simp
  | x :: l, 0 => by simp
  | x :: l, k + 1 => by
    rw [List.flatMap_cons, List.take_succ_cons, List.flatMap_cons, ← flat_take hz l k, Nat.succ_mul, Nat.add_comm, List.take_append, List.take_of_length_le (by rw [hz]; omega), hz]
    congr 2
    omega
theorem flat_cut {α : Type} {f : α → List Value} {z : Nat} (hz : ∀ x, (f x).length = z) (l : List α) (k : Nat) (h : k < l.length) : f l[k] = ((l.flatMap f).drop (k * z)).take z := by
  rw [flat_drop hz, List.drop_eq_getElem_cons h, List.flatMap_cons, List.take_append_of_le_length (by rw [hz]; exact Nat.le_refl _), List.take_of_length_le (by rw [hz]; exact Nat.le_refl _)]
theorem flat_get {α : Type} {f : α → List Value} {z : Nat} (hz : ∀ x, (f x).length = z) (l : List α) (k j : Nat) (h : k < l.length) (hj : j < z) : (l.flatMap f)[k * z + j]? = (f l[k])[j]? := by
  rw [flat_cut hz l k h, List.getElem?_take, if_pos hj, List.getElem?_drop]
theorem flat_set {α : Type} {f : α → List Value} {z : Nat} (hz : ∀ x, (f x).length = z) : ∀ (l : List α) (k : Nat) (x : α), k < l.length → setMany (l.flatMap f) (k * z) (f x) = some ((l.set k x).flatMap f) := by
  intro l k x h
  have h1 : l.flatMap f = (l.take k).flatMap f ++ f l[k] ++ (l.drop (k + 1)).flatMap f := by
    conv => lhs; rw [← List.take_append_drop k l, List.drop_eq_getElem_cons h]
    rw [List.flatMap_append, List.flatMap_cons, List.append_assoc]
  have h2 : (l.set k x).flatMap f = (l.take k).flatMap f ++ f x ++ (l.drop (k + 1)).flatMap f := by
    rw [List.set_eq_take_append_cons_drop, if_pos h, List.flatMap_append, List.flatMap_cons, List.append_assoc]
  rw [h2, h1]
  have h3 := setMany_mid (f x) ((l.take k).flatMap f) (f l[k]) ((l.drop (k + 1)).flatMap f) (by rw [hz, hz])
  rw [flat_len hz, List.length_take, Nat.min_eq_left (by omega)] at h3
  exact h3
/-- a field of an element of a slice that is read -/
theorem Ent.elF {L : List Assn} {α : Type} {f : α → List Value} {z : Nat} (hz : ∀ x, (f x).length = z) {l : List α} {n k j b off : Nat} {v : Value} (hr : Ent L (readS (Option.some ⟨b, off, Option.none⟩) n z (l.flatMap f))) (h : k < l.length) (hj : Nat.blt j z = true) (hv : (f l[k])[j]? = Option.some v) :
    Ent L (cellAt b (off + k * z + j) v) := by
  rw [Nat.add_assoc]
  exact Ent.elem hr rfl ((flat_get hz l k j h (by simpa [Nat.blt_eq] using hj)).trans hv)
/-- an element as a whole -/
theorem Ent.elA {L : List Assn} {α : Type} {f : α → List Value} {z : Nat} (hz : ∀ x, (f x).length = z) {l : List α} {n k b off : Nat} (hr : Ent L (readS (Option.some ⟨b, off, Option.none⟩) n z (l.flatMap f))) (h : k < l.length) :
    Ent L (cellsAt b (off + k * z) (f l[k])) := Ent.elems hr rfl (by rw [hz]; exact flat_cut hz l k h)
theorem Ent.ofOwn {L : List Assn} {a : Option Addr} {n cap : Nat} {T : TypeId} {size : Nat} {cs : List Value} (m : ownS a n cap T size cs ∈ L) : Ent L (readS a n size cs) := Ent.own m
end Go.GL
