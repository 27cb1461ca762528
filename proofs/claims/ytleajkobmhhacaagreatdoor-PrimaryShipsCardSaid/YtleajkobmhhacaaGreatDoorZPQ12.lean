/- Contracts of functions of the given program, and plain laws: parts of the proofs of laws. -/
import Derived.Test.YtleajkobmhhacaaGreatDoorZPQ11
import Derived.Test.YtleajkobmhhacaaGreatDoorZPQ7
import Derived.Test.YtleajkobmhhacaaGreatDoorZPQ3
import Derived.Test.YtleajkobmhhacaaGreatDoorZPQ4
import Derived.Test.YtleajkobmhhacaaGreatDoorZPQ6
import Derived.Test.YtleajkobmhhacaaGreatDoorZPQ10
/- Slices cut off at the front; a slice with three bounds; two pointers compared. -/
namespace Go.GL
open Go
theorem ownS_cut {a : Option Addr} {n cap l size : Nat} {T : TypeId} {cs : List Value} {h : Hp} (x : ownS a n cap T size cs h) (hl : l ≤ n) {cap' : Nat} (hc : n ≤ cap') (hcc : cap' ≤ cap) : ownS (cutA a cap' l size) (n - l) (cap' - l) T size (cs.drop (l * size)) h := by
  obtain ⟨e, le, hx⟩ := x
  have hsz : l * size ≤ cs.length := by rw [e]; exact Nat.mul_le_mul_right _ hl
  refine ⟨by rw [List.length_drop, e, Nat.sub_mul], by omega, ?_⟩
  rcases hx with ⟨rfl, rfl⟩ | ⟨b, pre, post, rfl, hcp, hb⟩
  · exact .inl ⟨cutA_none _ _ _, by omega⟩
  · right
    unfold cutA
    split
    · have e1 : n = l := by omega
      refine ⟨b, pre, cs ++ post, rfl, ?_, ?_⟩
      · have : cap' - l = 0 := by omega
        rw [this]; simp
      · have : cs.drop (l * size) = [] := List.drop_eq_nil_of_le (by rw [e, e1]; exact Nat.le_refl _)
        rw [this, List.append_nil, ← List.append_assoc]; exact hb
    · refine ⟨b, pre ++ cs.take (l * size), post, ?_, ?_, ?_⟩
      · rw [List.length_append, List.length_take, Nat.min_eq_left hsz]
        simp [addr_add]
      · have : cap' * size ≤ cap * size := Nat.mul_le_mul_right _ hcc
        rw [Nat.sub_mul, List.length_drop]; omega
      · rw [List.append_assoc pre, List.take_append_drop]; exact hb
theorem Imp.ownCut {a : Option Addr} {n cap l size : Nat} {T : TypeId} {cs : List Value} {L : List Assn} (hl : l ≤ n) {cap' : Nat} (hc : n ≤ cap') (hcc : cap' ≤ cap) : Imp (ownS a n cap T size cs :: L) (ownS (cutA a cap' l size) (n - l) (cap' - l) T size (cs.drop (l * size)) :: L) := fun _ s => stars_head_mono (fun _ x => ownS_cut x hl hc hcc) s
theorem equalIn_ptr_self {P : Program} {t e : TypeId} {te : TI} (d : Nat) (h : P.underlying t = some (.pointer e)) (he : TIOk P e te) (a : Addr) (w : World) : (Op.equalIn (d + 1) t (.pointer (some a)) (.pointer (some a))).run P w = .ok true w := by
  have h1 : (a == a) = true := by simp
  simp [Op.equalIn, run_underlying h, run_size he, sameAddr]
section
variable {G : Ctx} {N : Nat} {env : Env} {L : List Assn} {o : Oper} {post : Env → List Assn → Prop} {d : Nat}
theorem OP.slice3 {t e : TypeId} {x lo hi mx : Operand} {tsl te : TI} {a : Option Addr} {n cap l h m : Nat} {li hj mk : Int} (ho : o.op = .slice t x (some lo) (some hi) (some mx)) (hx : rd none env x = some (none, .slice a n cap))
    (hlo : rd none env lo = some (none, .int .i64 li)) (hhi : rd none env hi = some (none, .int .i64 hj)) (hmx : rd none env mx = some (none, .int .i64 mk)) (ht : G.T.find t = some tsl) (htd : tsl.desc = .slice e) (hte : G.T.find e = some te)
    (el : li = l) (eh : hj = h) (em : mk = m) (h1 : l ≤ h) (h2 : h ≤ m) (h3 : m ≤ cap) (hd : o.dst = some d) (hN : Nat.blt d N = true)
    (k : post ((d, .val (.slice (cutA a m l te.size) (h - l) (m - l))) :: env) L) : OP G N o env L post :=
  .run (fun ac w ha _ => by
    subst el eh em
    have hu : G.P.underlying t = some (.slice e) := htd ▸ (Tab.find_ok G.ok ht).desc
    have b1 : (Instr.sliceBound (.int .i64 (m : Int)) cap .slice3Acap).run G.P w = .ok m w := by
      rw [bound_ok _ (Int.natCast_nonneg m) (by omega)]; rfl
    have b2 : (Instr.sliceBound (.int .i64 (h : Int)) m .slice3B).run G.P w = .ok h w := by
      rw [bound_ok _ (Int.natCast_nonneg h) (by omega)]; rfl
    have b3 : (Instr.sliceBound (.int .i64 (l : Int)) h .slice3C).run G.P w = .ok l w := by
      rw [bound_ok _ (Int.natCast_nonneg l) (by omega)]; rfl
    rw [execOp, ho]
    refine val_run ?_
    simp [rd_plain hx ha, rd_plain hlo ha, rd_plain hhi ha, rd_plain hmx ha, Instr.sliceAt, Instr.slice, Instr.sliceBounds, run_underlying hu, b1, b2, b3, run_size (Tab.find_ok G.ok hte), cutA]) hd hN k
theorem OP.ptrNe {t e : TypeId} {x y : Operand} {t2 : TypeId} {ti : TI} {a b : Addr} (ho : o.op = .binOp .neq t x y t2) (hx : rd none env x = some (none, .pointer (some a))) (hy : rd none env y = some (none, .pointer (some b)))
    {te : TI} (ht : G.T.find t = some ti) (htd : ti.desc = .pointer e) (hte : G.T.find e = some te) (hab : a = b) (hd : o.dst = some d) (hN : Nat.blt d N = true)
    (k : post ((d, .val (.bool false)) :: env) L) : OP G N o env L post :=
  .run (fun ac w ha _ => by
    subst hab
    have hu : G.P.underlying t = some (.pointer e) := htd ▸ (Tab.find_ok G.ok ht).desc
    rw [execOp, ho]
    simp only [rd_plain hx ha, rd_plain hy ha]
    refine val_run ?_
    have h1 := equalIn_ptr_self (P := G.P) 9999 hu (Tab.find_ok G.ok hte) a w
    simp only [Sem.run_bind, guard_free (op := .neq) (t := t) (x := x) (y := y) (a := .pointer (some a)) (b := .pointer (some a)) (by simp) (by simp), Result.andThen_ok]
    exact bin_ne rfl h1) hd hN k
end
theorem Imp.pureB {L : List Assn} {p : Prop} (h : p) : Imp L ((fun _ => p) :: L) := fun k s => ⟨Hp.empty, k, fun _ => .inl rfl, by funext b; simp [Hp.join, Hp.empty], h, s⟩
/-- A contract that only makes new memory, for whatever hidden things. -/
theorem RT.ofEx {G : Ctx} {ι : Type} {f : FuncId} {args : List Value} {R : ι → Assn} {p : Value → List Assn → Prop} (en : Enters G.P f) (hu : ∀ x, Up (R x)) (H : ∀ x h, R x h → RT G f args (R x) p) : RT G f args (fun h => ∃ x, R x h) p := by
  refine ⟨en, fun M w he hs => ?_⟩
  obtain ⟨x, hx⟩ := he _ hs
  have huA : Up (fun k => stars M k ∧ R x k) := up_and (up_stars M) (hu x)
  refine ((H x _ hx).calls [fun k => stars M k ∧ R x k] w (fun k s => (stars_head s huA).2) ⟨hpOf w, Hp.empty, fun _ => .inr rfl, by funext b; simp [Hp.join, Hp.empty], ⟨hs, hx⟩, trivial⟩).mono ?_
  rintro e w' ⟨v, E, e1, hp, s⟩
  exact ⟨v, E, e1, hp, stars_app_one.2 (Imp.appL (L := [fun k => stars M k ∧ R x k]) (M := [stars M]) (fun _ s => stars_head_mono (fun _ a => a.1) s) E _ s)⟩
theorem RO.ofEx {G : Ctx} {ι : Type} {f : FuncId} {args : List Value} {R : ι → Assn} {v : Value} (en : Enters G.P f) (H : ∀ x h, R x h → RO G f args (R x) v) : RO G f args (fun h => ∃ x, R x h) v :=
  ⟨en, fun w ⟨x, hx⟩ => (H x _ hx).calls w hx⟩
theorem Triple.ofEx {G : Ctx} {ι : Type} {f : FuncId} {args : List Value} {Ls : ι → List Assn} {pre : List Assn} {p : Value → List Assn → Prop} (en : Enters G.P f) (H : ∀ x h, stars (Ls x) h → Triple G f args (Ls x ++ pre) p) : Triple G f args (exA Ls :: pre) p := by
  refine ⟨en, fun F w hs => ?_⟩
  obtain ⟨h1, h2, d, e, ⟨x, a⟩, s⟩ := hs
  refine (H x _ a).calls F w ?_
  unfold Sat
  rw [List.append_assoc]
  exact stars_append.2 ⟨h1, h2, d, e, a, s⟩
end Go.GL
/- Two branches that meet again, behind the rest of a region. -/
namespace Go.GL
open Go
theorem wpList_mono {P : Program} {ops : Array Oper} {Q Q' : Exit → Act → World → Prop} (hq : ∀ e a w, Q e a w → Q' e a w) : ∀ (l : List Oper) (a : Act) (w : World), wpList P ops Q l a w → wpList P ops Q' l a w
  | [], _, _, h => hq _ _ _ h
  | o :: l, a, w, h => by
    unfold wpList at h ⊢
    split at h
    · rename_i hw
      rw [if_pos hw]
      rcases h with h | ⟨h1, a2, w2, h2⟩
      · exact .inl (wp_oper_mono (fun a w x => wpList_mono hq l a w x) hq h)
      · exact .inr ⟨h1, a2, w2, hq _ _ _ h2⟩
    · rename_i hw
      rw [if_neg hw]
      exact wpList_mono hq l _ _ h
theorem WL.mono {G : Ctx} {N : Nat} {ops : Array Oper} {rest : List Oper} {env : Env} {L : List Assn} {k k' : Kont} (h : WL G N ops rest env L k) (f : ∀ e env L, k e env L → k' e env L) : WL G N ops rest env L k' :=
  .mk fun a w ha hs => wpList_mono (lift_mono f) _ _ _ (h a w ha hs)
/-- the rest of a region and the code behind it up to a point, where what holds is told anew -/
theorem WL.meet {G : Ctx} {N : Nat} {ops : Array Oper} {rest : List Oper} {env : Env} {L : List Assn} {x y : Code} {k : Kont} (k' : Env → List Assn → Prop) (hx : WL G N ops rest env L (seqK G N x (fun e E M => match e with | .normal => k' E M | e => k e E M)))
    (hy : ∀ E M, k' E M → WC G N y E M k) : WL G N ops rest env L (seqK G N (.seq x y) k) :=
  hx.mono (fun e E M h => by
    cases e with
    | normal => exact WC.meet k' h hy
    | _ => exact h)
/-- the same where the code up to the point is all that the region's end leads to -/
theorem WL.meet0 {G : Ctx} {N : Nat} {ops : Array Oper} {rest : List Oper} {env : Env} {L : List Assn} {y : Code} {k : Kont} (k' : Env → List Assn → Prop) (hx : WL G N ops rest env L (fun e E M => match e with | .normal => k' E M | e => k e E M))
    (hy : ∀ E M, k' E M → WC G N y E M k) : WL G N ops rest env L (seqK G N y k) :=
  hx.mono (fun e E M h => by
    cases e with
    | normal => exact hy _ _ h
    | _ => exact h)
theorem meetK {G : Ctx} {N : Nat} {x y : Code} {k : Kont} {k' : Env → List Assn → Prop} (hy : ∀ E M, k' E M → WC G N y E M k) : ∀ e E M, seqK G N x (fun e E M => match e with | .normal => k' E M | e => k e E M) e E M → seqK G N (.seq x y) k e E M := fun e E M h => by
  cases e with
  | normal => exact WC.meet k' h hy
  | _ => exact h
theorem seqK_up {G : Ctx} {N : Nat} {b y : Code} {K1 k : Kont} (h : ∀ e E M, K1 e E M → seqK G N y k e E M) : ∀ e E M, seqK G N b K1 e E M → seqK G N (.seq b y) k e E M := fun e E M x => by
  cases e with
  | normal => exact WC.seq (WC.mono x h)
  | _ => exact h _ E M x
/-- as WL.meet, with two pieces of code between -/
theorem WL.meet3 {G : Ctx} {N : Nat} {ops : Array Oper} {rest : List Oper} {env : Env} {L : List Assn} {b c x y : Code} {k : Kont} (k' : Env → List Assn → Prop)
    (hx : WL G N ops rest env L (seqK G N b (seqK G N c (seqK G N x (fun e E M => match e with | .normal => k' E M | e => k e E M))))) (hy : ∀ E M, k' E M → WC G N y E M k) : WL G N ops rest env L (seqK G N (.seq b (.seq c (.seq x y))) k) :=
  hx.mono (seqK_up (seqK_up (meetK hy)))
/-- one shape of what holds at a meeting point -/
def Meet {σ : Type} (I : σ → Prop) (E : σ → Env) (M : σ → List Assn) (env : Env) (L : List Assn) : Prop := ∃ s, I s ∧ SubEnv (E s) env ∧ Imp L (M s)
theorem Meet.go {σ : Type} {I : σ → Prop} {E : σ → Env} {M : σ → List Assn} {G : Ctx} {N : Nat} {y : Code} {k : Kont} (h : ∀ s, I s → WC G N y (E s) (M s) k) (env : Env) (L : List Assn) (m : Meet I E M env L) : WC G N y env L k := by
  obtain ⟨s, hi, hs, hm⟩ := m
  exact WC.sub hs (WC.imp hm (h s hi))
end Go.GL
namespace Go.GL
open Go

theorem stars_sing {B : Assn} {k : Hp} (h : B k) : stars [B] k := ⟨k, Hp.empty, fun _ => .inr rfl, by funext b; simp [Hp.join, Hp.empty], h, trivial⟩
/-- out of one assertion that is known -/
theorem Ent.of1 {A B : Assn} {L : List Assn} {R : Assn} (hu : Up A) (hA : ∀ k, A k → B k) (m : A ∈ L) (e : Ent [B] R) : Ent L R := Ent.mem m hu fun k a => e k (stars_sing (hA k a))
section
variable {G : Ctx} {N : Nat} {env : Env} {S : List Assn} {o : Oper}
/-- a condition that is known -/
theorem Quiet.bool {b b' : Bool} (q : Quiet G N env S o (.bool b')) (e : b' = b) : Quiet G N env S o (.bool b) := e ▸ q
end
end Go.GL
/- Contracts of functions of the given program, and plain laws on what they compute: parts of the proofs of laws. -/

namespace Go.Proofs.YtleajkobmhhacaaGreatDoor
open Go Go.GL

/-! a lease's site -/
abbrev siT : TypeId := 274
def siteC (s : St) : List Value := [.int .i64 s.now, .int .i64 s.epoch, .int .i64 s.til]
def siteA (b : Nat) (s : St) : Assn := blk b (siteC s) siT
theorem up_siteA (b : Nat) (s : St) : Up (siteA b s) := up_blk _ _ _
def St.ok (s : St) : Prop := (0 ≤ s.now ∧ s.now ≤ big60) ∧ 0 ≤ s.til ∧ s.til ≤ big60 + 10
set_option maxRecDepth 10000 in
theorem lwrong_ok (at_ c : Int) (h : c ≠ 0) : Triple G 171 [.int .i64 at_, .int .i64 c] [] (IsEr (some ([(leaseT, at_)], c))) := by
  refine Triple.enter Tryz.func171 rfl (by decide) rfl Tryz.ntmps171 rfl (fun F => ?_)
  repeat (first | refine GO ?_ | refine NW fun _ => ?_)
  refine WL.step rfl (OP.call (pre := []) rfl rfl (wrap_ok leaseT at_ c h) PS rfl rfl ?_)
  intro v M hM
  obtain ⟨M', h1, h2⟩ := hM.isEr
  repeat (first | refine GO ?_ | refine NW fun _ => ?_)
  exact ret1 rfl ⟨M', h1, Imp.app h2 _⟩
set_option maxRecDepth 10000 in
theorem lat_ok (b : Nat) (s : St) (now : Int) : Triple G 172 [.pointer (some ⟨b, 0, none⟩), .int .i64 now] [siteA b s] (fun v M => v = .int .i64 (s.at_ now).now ∧ M = [siteA b (s.at_ now)]) := by
  refine Triple.enter Tryz.func172 rfl (by decide) rfl Tryz.ntmps172 rfl (fun F => ?_)
  unfold siteA siteC
  have hx : (s.at_ now).now = (if s.now < (if 1152921504606846976 < now then 1152921504606846976 else now) then (if 1152921504606846976 < now then 1152921504606846976 else now) else s.now) := by
    show max s.now (min now 1152921504606846976) = _
    split <;> split <;> omega
  repeat (first | refine GD ?_ | refine NW fun _ => ?_)
  rw [← hx]
  exact ret1 rfl ⟨_, ⟨rfl, rfl⟩, II⟩
def leEr (at_ c : Int) : Er1 := ([(leaseT, at_)], c)
set_option maxHeartbeats 2000000 in
set_option maxRecDepth 10000 in
theorem lgrant_ok (b : Nat) (s : St) (hs : s.ok) (e now : Int) : Triple G 113 [.pointer (some ⟨b, 0, none⟩), .int .i64 e, .int .i64 now] [siteA b s] (fun v M => ∃ E, IsEr ((grantS s e now).1.map (leEr e)) v E ∧ M = E ++ [siteA b (grantS s e now).2]) := by
  refine Triple.enter Tryz.func113 rfl (by decide) rfl Tryz.ntmps113 rfl (fun F => ?_)
  have hb := big60_eq
  have ha := St.at_ok hs now
  have hdef : grantS s e now = if e < 1 then (some 1, s.at_ now) else if e < s.epoch then (some 10, s.at_ now) else (none, { s.at_ now with epoch := e, til := (s.at_ now).now + 10 }) := rfl
  repeat (first | refine GD ?_ | refine NW fun _ => ?_)
  refine WL.step rfl (OP.call (pre := [siteA b s]) rfl rfl (lat_ok b s now) PS rfl rfl ?_)
  rintro _ _ ⟨rfl, rfl⟩
  have he : (s.at_ now).epoch = s.epoch := rfl
  rw [← he] at hdef
  generalize s.at_ now = t at *
  obtain ⟨tn, te, tt⟩ := t
  dsimp only at ha hdef he ⊢
  unfold siteA siteC
  dsimp only
  by_cases h1 : e < 1
  · rw [if_pos h1] at hdef
    repeat (first | refine GD ?_ | refine NW fun _ => ?_)
    refine WL.step rfl (OP.call (pre := []) rfl rfl (lwrong_ok e 1 (by decide)) PS rfl rfl ?_)
    intro v M hM
    repeat (first | refine GD ?_ | refine NW fun _ => ?_)
    exact ret1 rfl ⟨M ++ [blk b [.int .i64 tn, .int .i64 te, .int .i64 tt] siT], ⟨M, by rw [hdef]; exact hM, by rw [hdef]⟩, by rw [List.append_assoc]; exact Imp.appL II M⟩
  rw [if_neg h1] at hdef
  by_cases h2 : e < te
  · rw [if_pos h2] at hdef
    repeat (first | refine GD ?_ | refine NW fun _ => ?_)
    refine WL.step rfl (OP.call (pre := []) rfl rfl (lwrong_ok e 10 (by decide)) PS rfl rfl ?_)
    intro v M hM
    repeat (first | refine GD ?_ | refine NW fun _ => ?_)
    exact ret1 rfl ⟨M ++ [blk b [.int .i64 tn, .int .i64 te, .int .i64 tt] siT], ⟨M, by rw [hdef]; exact hM, by rw [hdef]⟩, by rw [List.append_assoc]; exact Imp.appL II M⟩
  rw [if_neg h2] at hdef
  repeat (first | refine GD ?_ | refine NW fun _ => ?_)
  exact ret1 rfl ⟨_, ⟨[], by rw [hdef]; exact ⟨rfl, rfl⟩, by rw [hdef]⟩, II⟩
set_option maxHeartbeats 2000000 in
set_option maxRecDepth 10000 in
theorem lcheck_ok (b : Nat) (s : St) (e now : Int) : Triple G 108 [.pointer (some ⟨b, 0, none⟩), .int .i64 e, .int .i64 now] [siteA b s] (fun v M => ∃ E, IsEr ((checkS s e now).map (leEr e)) v E ∧ M = E ++ [siteA b (s.at_ now)]) := by
  refine Triple.enter Tryz.func108 rfl (by decide) rfl Tryz.ntmps108 rfl (fun F => ?_)
  have hdef : checkS s e now = if (s.at_ now).epoch = 0 ∨ e ≠ (s.at_ now).epoch then some 10 else if (s.at_ now).til ≤ (s.at_ now).now then some 11 else none := rfl
  repeat (first | refine GD ?_ | refine NW fun _ => ?_)
  refine WL.step rfl (OP.call (pre := [siteA b s]) rfl rfl (lat_ok b s now) PS rfl rfl ?_)
  rintro _ _ ⟨rfl, rfl⟩
  generalize s.at_ now = t at *
  obtain ⟨tn, te, tt⟩ := t
  dsimp only at hdef ⊢
  unfold siteA siteC
  dsimp only
  by_cases h1 : te = 0
  · rw [if_pos (.inl h1)] at hdef
    repeat (first | refine GD ?_ | refine NW fun _ => ?_)
    refine WL.step rfl (OP.call (pre := []) rfl rfl (lwrong_ok e 10 (by decide)) PS rfl rfl ?_)
    intro v M hM
    repeat (first | refine GD ?_ | refine NW fun _ => ?_)
    exact ret1 rfl ⟨M ++ [blk b [.int .i64 tn, .int .i64 te, .int .i64 tt] siT], ⟨M, by rw [hdef]; exact hM, rfl⟩, by rw [List.append_assoc]; exact Imp.appL II M⟩
  by_cases h2 : e = te
  rotate_left
  · rw [if_pos (.inr h2)] at hdef
    repeat (first | refine GD ?_ | refine NW fun _ => ?_)
    refine WL.step rfl (OP.call (pre := []) rfl rfl (lwrong_ok e 10 (by decide)) PS rfl rfl ?_)
    intro v M hM
    repeat (first | refine GD ?_ | refine NW fun _ => ?_)
    exact ret1 rfl ⟨M ++ [blk b [.int .i64 tn, .int .i64 te, .int .i64 tt] siT], ⟨M, by rw [hdef]; exact hM, rfl⟩, by rw [List.append_assoc]; exact Imp.appL II M⟩
  rw [if_neg (fun h => by rcases h with h | h; exact h1 h; exact h h2)] at hdef
  by_cases h3 : tt ≤ tn
  · rw [if_pos h3] at hdef
    repeat (first | refine GD ?_ | refine NW fun _ => ?_)
    refine WL.step rfl (OP.call (pre := []) rfl rfl (lwrong_ok e 11 (by decide)) PS rfl rfl ?_)
    intro v M hM
    repeat (first | refine GD ?_ | refine NW fun _ => ?_)
    exact ret1 rfl ⟨M ++ [blk b [.int .i64 tn, .int .i64 te, .int .i64 tt] siT], ⟨M, by rw [hdef]; exact hM, rfl⟩, by rw [List.append_assoc]; exact Imp.appL II M⟩
  rw [if_neg h3] at hdef
  repeat (first | refine GD ?_ | refine NW fun _ => ?_)
  exact ret1 rfl ⟨_, ⟨[], by rw [hdef]; exact ⟨rfl, rfl⟩, rfl⟩, II⟩
set_option maxRecDepth 10000 in
theorem lepoch_ro (b : Nat) (s : St) : RO G 183 [.pointer (some ⟨b, 0, none⟩)] (siteA b s) (.tuple #[.int .i64 s.epoch, .int .i64 s.til]) := by
  refine RO.enter Tryz.func183 rfl (by decide) rfl Tryz.ntmps183 rfl (fun A hu hA => ?_) (up_siteA _ _)
  have hC : ∀ {L} {i : Nat} {x : Value}, (siteC s)[i]? = some x → A ∈ L → Ent L (cellAt b i x) := fun h m => Ent.of1 hu hA m (Ent.blk (T := siT) (c := siteC s) (List.Mem.head _) h)
  repeat (first | refine GD ?_ | refine NW fun _ => ?_)
  refine RD 10 10 (_) ?_
  refine WP 0 ?_
  refine WP 1 ?_
  refine WP 2 ?_
  refine VL 3 (.int .i64 s.epoch) rfl rfl rfl rfl (.inl ⟨rfl, hC (i := 1) rfl MM⟩) ?_
  refine WP 4 ?_
  refine WP 5 ?_
  refine WP 6 ?_
  refine VL 7 (.int .i64 s.til) rfl rfl rfl rfl (.inl ⟨rfl, hC (i := 2) rfl MM⟩) ?_
  refine WP 8 ?_
  refine WP 9 ?_
  refine DN ?_
  repeat (first | refine GD ?_ | refine NW fun _ => ?_)
  exact ret2 rfl rfl ⟨rfl, MM⟩
end Go.Proofs.YtleajkobmhhacaaGreatDoor
/- Contracts of functions of the given program, and plain laws on what they compute: parts of the proofs of laws. -/

namespace Go.Proofs.YtleajkobmhhacaaGreatDoor
open Go Go.GL

/-! a gate -/
abbrev gtT : TypeId := 276
abbrev caT : TypeId := 88
def encCa (c : Call) : List Value := [.int .i64 c.1, .int .i64 c.2.1, .string c.2.2]
theorem encCa_len (c : Call) : (encCa c).length = 3 := rfl
def gateC (g : Gt) (x : Option Addr × Nat) : List Value := [.int .i64 g.round, .int .i64 g.left, .int .i64 g.latest, .slice x.1 g.wait.length x.2]
def gateL (b : Nat) (g : Gt) (x : Option Addr × Nat) : List Assn := [blk b (gateC g x) gtT, ownS x.1 g.wait.length x.2 caT 3 (g.wait.flatMap encCa)]
def gateA (b : Nat) (g : Gt) : Assn := exA (gateL b g)
theorem up_gateA (b : Nat) (g : Gt) : Up (gateA b g) := up_exA _
theorem gateFold (b : Nat) (g : Gt) (x : Option Addr × Nat) {N : List Assn} : Imp (blk b (gateC g x) gtT :: ownS x.1 g.wait.length x.2 caT 3 (g.wait.flatMap encCa) :: N) (gateA b g :: N) := Imp.fold (Ls := gateL b g) x
theorem gate_at {b : Nat} {g : Gt} {L : List Assn} (m : gateA b g ∈ L) {i : Nat} {v : Value} (hv : ∀ x, (gateC g x)[i]? = some v) : Ent L (cellAt b i v) :=
  Ent.mem m (up_gateA _ _) fun h ⟨x, s⟩ => (Ent.blk (T := gtT) (c := gateC g x) (List.Mem.head _) (hv x)) h s
def CallsA (l : List Call) (v : Value) (E : List Assn) : Prop := ∃ a cap, v = .slice a l.length cap ∧ E = [ownS a l.length cap caT 3 (l.flatMap encCa)]
def gtEr (at_ c : Int) : Er1 := ([(gateT, at_)], c)
set_option maxRecDepth 10000 in
theorem gwrong_ok (at_ c : Int) (h : c ≠ 0) : Triple G 173 [.int .i64 at_, .int .i64 c] [] (IsEr (some (gtEr at_ c))) := by
  refine Triple.enter Tryz.func173 rfl (by decide) rfl Tryz.ntmps173 rfl (fun F => ?_)
  repeat (first | refine GO ?_ | refine NW fun _ => ?_)
  refine WL.step rfl (OP.call (pre := []) rfl rfl (wrap_ok gateT at_ c h) PS rfl rfl ?_)
  intro v M hM
  obtain ⟨M', h1, h2⟩ := hM.isEr
  repeat (first | refine GO ?_ | refine NW fun _ => ?_)
  exact ret1 rfl ⟨M', h1, Imp.app h2 _⟩
set_option maxRecDepth 10000 in
theorem gfrozen_ro (b : Nat) (g : Gt) : RO G 123 [.pointer (some ⟨b, 0, none⟩)] (gateA b g) (.int .i64 g.round) := by
  refine RO.enter Tryz.func123 rfl (by decide) rfl Tryz.ntmps123 rfl (fun A hu hA => ?_) (up_gateA _ _)
  have hG : ∀ {L} {i : Nat} {v : Value}, A ∈ L → (∀ x, (gateC g x)[i]? = some v) → Ent L (cellAt b i v) := fun m h => Ent.of1 hu hA m (gate_at (List.Mem.head _) h)
  repeat (first | refine GD ?_ | refine NW fun _ => ?_)
  refine WL.step rfl (OP.load1 (v := .int .i64 g.round) rfl rfl rfl rfl (hG MM (fun _ => rfl)) rfl rfl ?_)
  repeat (first | refine GD ?_ | refine NW fun _ => ?_)
  exact ret1 rfl ⟨rfl, MM⟩
set_option maxRecDepth 10000 in
theorem gwaiting_ro (b : Nat) (g : Gt) : RO G 124 [.pointer (some ⟨b, 0, none⟩)] (gateA b g) (.int .i64 g.wait.length) := by
  refine RO.enterEx Tryz.func124 rfl (by decide) rfl Tryz.ntmps124 rfl (fun x A hu hA => ?_)
  have hC : ∀ {L} {i : Nat} {v : Value}, (gateC g x)[i]? = some v → A ∈ L → Ent L (cellAt b i v) := fun h m => Ent.of hu hA m (Ent.blk (T := gtT) (c := gateC g x) (List.Mem.head _) h)
  repeat (first | refine GD ?_ | refine NW fun _ => ?_)
  refine WL.step rfl (OP.load1 (v := .slice x.1 g.wait.length x.2) rfl rfl rfl rfl (hC rfl MM) rfl rfl ?_)
  repeat (first | refine GD ?_ | refine NW fun _ => ?_)
  exact ret1 rfl ⟨rfl, MM⟩
def FreezeG (b : Nat) (g : Gt) (round ticks : Int) (v : Value) (M : List Assn) : Prop := match freezeG g round ticks with
  | .ok g' => v = .nilIface ∧ M = [gateA b g']
  | .error c => ∃ E, IsEr (some (gtEr round c)) v E ∧ M = E ++ [gateA b g]
set_option maxHeartbeats 2000000 in
set_option maxRecDepth 10000 in
theorem gfreeze_ok (b : Nat) (g : Gt) (round ticks : Int) : Triple G 115 [.pointer (some ⟨b, 0, none⟩), .int .i64 round, .int .i64 ticks] [gateA b g] (FreezeG b g round ticks) := by
  refine Triple.enter Tryz.func115 rfl (by decide) rfl Tryz.ntmps115 rfl (fun F => ?_)
  refine WC.open (M := [F]) (Ls := gateL b g) II (fun x => ?_)
  have hdef : freezeG g round ticks = if round < 1 ∨ ticks < 1 then .error 1
    else if round ≠ g.round ∧ round ≤ g.latest then .error 10
    else .ok { g with round := round, latest := round, left := ticks } := rfl
  have hback := fun (g' : Gt) (N : List Assn) => gateFold b g' x (N := N)
  unfold gateL
  unfold gateC at *
  dsimp only [List.cons_append, List.nil_append]
  unfold FreezeG
  by_cases h1 : round < 1
  · rw [if_pos (.inl h1)] at hdef
    repeat (first | refine GD ?_ | refine NW fun _ => ?_)
    refine WL.step rfl (OP.call (pre := []) rfl rfl (gwrong_ok round 1 (by decide)) PS rfl rfl ?_)
    intro v M hM
    repeat (first | refine GD ?_ | refine NW fun _ => ?_)
    exact ret1 rfl ⟨M ++ [gateA b g], by rw [hdef]; exact ⟨M, hM, rfl⟩, by rw [List.append_assoc]; exact Imp.appL (Imp.trans II (hback g [F])) M⟩
  by_cases h2 : ticks < 1
  · rw [if_pos (.inr h2)] at hdef
    repeat (first | refine GD ?_ | refine NW fun _ => ?_)
    refine WL.step rfl (OP.call (pre := []) rfl rfl (gwrong_ok round 1 (by decide)) PS rfl rfl ?_)
    intro v M hM
    repeat (first | refine GD ?_ | refine NW fun _ => ?_)
    exact ret1 rfl ⟨M ++ [gateA b g], by rw [hdef]; exact ⟨M, hM, rfl⟩, by rw [List.append_assoc]; exact Imp.appL (Imp.trans II (hback g [F])) M⟩
  rw [if_neg (fun h => by rcases h with h | h; exact h1 h; exact h2 h)] at hdef
  by_cases h3 : round = g.round
  · rw [if_neg (fun h => h.1 h3)] at hdef
    repeat (first | refine GD ?_ | refine NW fun _ => ?_)
    refine ret1 rfl ⟨[gateA b { g with round := round, latest := round, left := ticks }], by rw [hdef]; exact ⟨rfl, rfl⟩, ?_⟩
    exact Imp.trans II (hback { g with round := round, latest := round, left := ticks } [F])
  by_cases h4 : round ≤ g.latest
  · rw [if_pos ⟨h3, h4⟩] at hdef
    repeat (first | refine GD ?_ | refine NW fun _ => ?_)
    refine WL.step rfl (OP.call (pre := []) rfl rfl (gwrong_ok round 10 (by decide)) PS rfl rfl ?_)
    intro v M hM
    repeat (first | refine GD ?_ | refine NW fun _ => ?_)
    exact ret1 rfl ⟨M ++ [gateA b g], by rw [hdef]; exact ⟨M, hM, rfl⟩, by rw [List.append_assoc]; exact Imp.appL (Imp.trans II (hback g [F])) M⟩
  rw [if_neg (fun h => h4 h.2)] at hdef
  repeat (first | refine GD ?_ | refine NW fun _ => ?_)
  refine ret1 rfl ⟨[gateA b { g with round := round, latest := round, left := ticks }], by rw [hdef]; exact ⟨rfl, rfl⟩, ?_⟩
  exact Imp.trans II (hback { g with round := round, latest := round, left := ticks } [F])
def EnterG (b : Nat) (g : Gt) (c : Call) (v : Value) (M : List Assn) : Prop :=
  if g.round = 0 then v = .tuple #[.bool true, .nilIface] ∧ M = [gateA b g]
  else if 4 ≤ g.wait.length then ∃ e E, IsEr (some (gtEr g.round 7)) e E ∧ v = .tuple #[.bool false, e] ∧ M = E ++ [gateA b g]
  else v = .tuple #[.bool false, .nilIface] ∧ M = [gateA b { g with wait := g.wait ++ [c] }]
set_option maxHeartbeats 2000000 in
set_option maxRecDepth 10000 in
theorem genter_ok (b : Nat) (g : Gt) (c : Call) : Triple G 110 [.pointer (some ⟨b, 0, none⟩), .agg (encCa c).toArray] [gateA b g] (EnterG b g c) := by
  refine Triple.enter Tryz.func110 rfl (by decide) rfl Tryz.ntmps110 rfl (fun F => ?_)
  refine WC.open (M := [F]) (Ls := gateL b g) II (fun x => ?_)
  have hback := fun (g' : Gt) (x : Option Addr × Nat) (N : List Assn) => gateFold b g' x (N := N)
  obtain ⟨id, block, data⟩ := c
  rw [show encCa (id, block, data) = [.int .i64 id, .int .i64 block, .string data] from rfl]
  unfold gateL
  unfold gateC at *
  dsimp only [List.cons_append, List.nil_append]
  by_cases h0 : g.round = 0
  · repeat (first | refine GD ?_ | refine NW fun _ => ?_)
    exact ret2 rfl rfl ⟨[gateA b g], by unfold EnterG; rw [if_pos h0]; exact ⟨rfl, rfl⟩, Imp.trans II (hback g x [F])⟩
  by_cases h4 : 4 ≤ g.wait.length
  · repeat (first | refine GD ?_ | refine NW fun _ => ?_)
    refine WL.step rfl (OP.call (pre := []) rfl rfl (gwrong_ok g.round 7 (by decide)) PS rfl rfl ?_)
    intro v M hM
    repeat (first | refine GD ?_ | refine NW fun _ => ?_)
    exact ret2 rfl rfl ⟨M ++ [gateA b g], by unfold EnterG; rw [if_neg h0, if_pos h4]; exact ⟨v, M, hM, rfl, rfl⟩, by rw [List.append_assoc]; exact Imp.appL (Imp.trans II (hback g x [F])) M⟩
  have hn4 : g.wait.length < 4 := by omega
  repeat (first | refine GD ?_ | refine NW fun _ => ?_)
  refine RD 7 11 (_) ?_
  refine WP 0 ?_
  refine WP 1 ?_
  refine WP 2 ?_
  refine WP 3 ?_
  refine VV 4 ?_
  refine VL 5 (.agg (encCa (id, block, data)).toArray) rfl rfl rfl rfl (.inr ⟨rfl, encCa (id, block, data), rfl, rfl, Ent.whole MM⟩) ?_
  refine WH.only 6 rfl rfl (by kernel_rfl) rfl (OP.sliceLit (c := encCa (id, block, data)) rfl rfl rfl rfl rfl rfl rfl rfl (fun b2 => ⟨fun _ => II, ?_⟩))
  refine WH.only 7 rfl rfl (by kernel_rfl) rfl (OP.append rfl rfl rfl rfl rfl rfl rfl rfl rfl P1 (Ent.own MM) rfl (by omega) (by omega) rfl rfl (fun a' cap' => ⟨(fun h => nomatch h), ?_⟩))
  refine WP 8 ?_
  refine WP 9 ?_
  refine WH.only 10 rfl rfl (by kernel_rfl) rfl (OP.store rfl rfl rfl rfl rfl rfl rfl UP rfl ⟨(fun h => nomatch h), ?_⟩)
  refine DN ?_
  repeat (first | refine GD ?_ | refine NW fun _ => ?_)
  refine ret2 rfl rfl ⟨[gateA b { g with wait := g.wait ++ [(id, block, data)] }], by unfold EnterG; rw [if_neg h0, if_neg h4]; exact ⟨rfl, rfl⟩, ?_⟩
  refine Imp.trans ?_ (hback { g with wait := g.wait ++ [(id, block, data)] } (a', cap') [F])
  dsimp only
  rw [List.length_append, List.flatMap_append, List.flatMap_cons, List.flatMap_nil, List.append_nil]
  exact II
set_option maxHeartbeats 2000000 in
set_option maxRecDepth 10000 in
theorem gopens_thaw (b : Nat) (g : Gt) : Triple G 182 [.pointer (some ⟨b, 0, none⟩), .int .i64 2] [gateA b g] (fun v M => ∃ E, CallsA g.wait v E ∧ M = E ++ [gateA b g.opened]) := by
  refine Triple.enter Tryz.func182 rfl (by decide) rfl Tryz.ntmps182 rfl (fun F => ?_)
  refine WC.open (M := [F]) (Ls := gateL b g) II (fun x => ?_)
  have hback := fun (g' : Gt) (x : Option Addr × Nat) (N : List Assn) => gateFold b g' x (N := N)
  unfold gateL
  unfold gateC at *
  dsimp only [List.cons_append, List.nil_append]
  repeat (first | refine GD ?_ | refine NW fun _ => ?_)
  refine ret1 rfl ⟨[ownS x.1 g.wait.length x.2 caT 3 (g.wait.flatMap encCa)] ++ [gateA b g.opened], ⟨_, ⟨_, _, rfl, rfl⟩, rfl⟩, ?_⟩
  refine Imp.trans (Imp.nilS caT 3) (Imp.trans ?_ (Imp.trans (hback g.opened (none, 0) [ownS x.1 g.wait.length x.2 caT 3 (g.wait.flatMap encCa), F]) II))
  exact II
set_option maxHeartbeats 2000000 in
set_option maxRecDepth 10000 in
theorem gopens_tick (b : Nat) (g : Gt) (hl : 0 ≤ g.left ∧ g.left ≤ 6) : Triple G 182 [.pointer (some ⟨b, 0, none⟩), .int .i64 0] [gateA b g] (fun v M => ∃ E, CallsA (if 0 < g.left - 1 then [] else g.wait) v E ∧ M = E ++ [gateA b (if 0 < g.left - 1 then { g with left := g.left - 1 } else g.opened)]) := by
  refine Triple.enter Tryz.func182 rfl (by decide) rfl Tryz.ntmps182 rfl (fun F => ?_)
  refine WC.open (M := [F]) (Ls := gateL b g) II (fun x => ?_)
  have hback := fun (g' : Gt) (x : Option Addr × Nat) (N : List Assn) => gateFold b g' x (N := N)
  unfold gateL
  unfold gateC at *
  dsimp only [List.cons_append, List.nil_append]
  by_cases h : 0 < g.left - 1
  · rw [if_pos h, if_pos h]
    repeat (first | refine GD ?_ | refine NW fun _ => ?_)
    refine ret1 rfl ⟨[ownS none 0 0 caT 3 (([] : List Call).flatMap encCa)] ++ [gateA b { g with left := g.left - 1 }], ⟨_, ⟨_, _, rfl, rfl⟩, rfl⟩, ?_⟩
    refine Imp.trans (Imp.nilS caT 3) (Imp.trans ?_ (Imp.trans (hback { g with left := g.left - 1 } x [ownS none 0 0 caT 3 (([] : List Call).flatMap encCa), F]) II))
    exact II
  · rw [if_neg h, if_neg h]
    repeat (first | refine GD ?_ | refine NW fun _ => ?_)
    refine ret1 rfl ⟨[ownS x.1 g.wait.length x.2 caT 3 (g.wait.flatMap encCa)] ++ [gateA b g.opened], ⟨_, ⟨_, _, rfl, rfl⟩, rfl⟩, ?_⟩
    refine Imp.trans (Imp.nilS caT 3) (Imp.trans ?_ (Imp.trans (hback g.opened (none, 0) [ownS x.1 g.wait.length x.2 caT 3 (g.wait.flatMap encCa), F]) II))
    exact II
def ThawG (b : Nat) (g : Gt) (round : Int) (v : Value) (M : List Assn) : Prop := match thawG g round with
  | .ok (l, g') => ∃ x E, CallsA l x E ∧ v = .tuple #[x, .nilIface] ∧ M = E ++ [gateA b g']
  | .error c => ∃ e E, IsEr (some (gtEr round c)) e E ∧ v = .tuple #[.slice none 0 0, e] ∧ M = E ++ [gateA b g]
set_option maxHeartbeats 2000000 in
set_option maxRecDepth 10000 in
theorem gthaw_ok (b : Nat) (g : Gt) (round : Int) : Triple G 119 [.pointer (some ⟨b, 0, none⟩), .int .i64 round] [gateA b g] (ThawG b g round) := by
  refine Triple.enter Tryz.func119 rfl (by decide) rfl Tryz.ntmps119 rfl (fun F => ?_)
  have hdef : thawG g round = if g.round = 0 ∨ g.round ≠ round then .error 9 else .ok (g.wait, g.opened) := rfl
  have hG : ∀ {L} {i : Nat} {v : Value}, gateA b g ∈ L → (∀ x, (gateC g x)[i]? = some v) → Ent L (cellAt b i v) := fun m h => gate_at m h
  have hop := gopens_thaw b g
  by_cases h0 : g.round = 0
  · rw [if_pos (.inl h0)] at hdef
    repeat (first | refine GD ?_ | refine NW fun _ => ?_)
    refine WL.step rfl (OP.load1 (v := .int .i64 g.round) rfl rfl rfl rfl (hG MM (fun _ => rfl)) rfl rfl ?_)
    repeat (first | refine GD ?_ | refine NW fun _ => ?_)
    refine WL.step rfl (OP.call (pre := []) rfl rfl (gwrong_ok round 9 (by decide)) PS rfl rfl ?_)
    intro v M hM
    repeat (first | refine GD ?_ | refine NW fun _ => ?_)
    exact ret2 rfl rfl ⟨M ++ [gateA b g], by unfold ThawG; rw [hdef]; exact ⟨v, M, hM, rfl, rfl⟩, by rw [List.append_assoc]; exact Imp.appL II M⟩
  by_cases h1 : g.round = round
  rotate_left
  · rw [if_pos (.inr h1)] at hdef
    repeat (first | refine GD ?_ | refine NW fun _ => ?_)
    refine WL.step rfl (OP.load1 (v := .int .i64 g.round) rfl rfl rfl rfl (hG MM (fun _ => rfl)) rfl rfl ?_)
    repeat (first | refine GD ?_ | refine NW fun _ => ?_)
    refine WL.guardT rfl rfl rfl rfl (OP.load1 (v := .int .i64 g.round) rfl rfl rfl rfl (hG MM (fun _ => rfl)) rfl rfl ?_)
    repeat (first | refine GD ?_ | refine NW fun _ => ?_)
    refine WL.step rfl (OP.call (pre := []) rfl rfl (gwrong_ok round 9 (by decide)) PS rfl rfl ?_)
    intro v M hM
    repeat (first | refine GD ?_ | refine NW fun _ => ?_)
    exact ret2 rfl rfl ⟨M ++ [gateA b g], by unfold ThawG; rw [hdef]; exact ⟨v, M, hM, rfl, rfl⟩, by rw [List.append_assoc]; exact Imp.appL II M⟩
  rw [if_neg (fun h => by rcases h with h | h; exact h0 h; exact h h1)] at hdef
  repeat (first | refine GD ?_ | refine NW fun _ => ?_)
  refine WL.step rfl (OP.load1 (v := .int .i64 g.round) rfl rfl rfl rfl (hG MM (fun _ => rfl)) rfl rfl ?_)
  repeat (first | refine GD ?_ | refine NW fun _ => ?_)
  refine WL.guardT rfl rfl rfl rfl (OP.load1 (v := .int .i64 g.round) rfl rfl rfl rfl (hG MM (fun _ => rfl)) rfl rfl ?_)
  repeat (first | refine GD ?_ | refine NW fun _ => ?_)
  refine WL.step rfl (OP.call (pre := [gateA b g]) rfl rfl hop PS rfl rfl ?_)
  rintro _ _ ⟨E, ⟨a, cap, rfl, rfl⟩, rfl⟩
  repeat (first | refine GD ?_ | refine NW fun _ => ?_)
  exact ret2 rfl rfl ⟨[ownS a g.wait.length cap caT 3 (g.wait.flatMap encCa)] ++ [gateA b g.opened], by unfold ThawG; rw [hdef]; exact ⟨_, _, ⟨a, cap, rfl, rfl⟩, rfl, rfl⟩, II⟩
set_option maxHeartbeats 2000000 in
set_option maxRecDepth 10000 in
theorem gtick_ok (b : Nat) (g : Gt) (hl : 0 ≤ g.left ∧ g.left ≤ 6) : Triple G 121 [.pointer (some ⟨b, 0, none⟩)] [gateA b g] (fun v M => ∃ E, CallsA (tickG g).1 v E ∧ M = E ++ [gateA b (tickG g).2]) := by
  refine Triple.enter Tryz.func121 rfl (by decide) rfl Tryz.ntmps121 rfl (fun F => ?_)
  have hdef : tickG g = if g.round = 0 then ([], g) else if 0 < g.left - 1 then ([], { g with left := g.left - 1 }) else (g.wait, g.opened) := rfl
  have hop := gopens_tick b g hl
  repeat (first | refine GD ?_ | refine NW fun _ => ?_)
  refine WL.step rfl (OP.callRO rfl rfl (gfrozen_ro b g) (Ent.at (up_gateA _ _) MM) rfl rfl ?_)
  by_cases h0 : g.round = 0
  · rw [hdef, if_pos h0]
    repeat (first | refine GD ?_ | refine NW fun _ => ?_)
    refine ret1 rfl ⟨[ownS none 0 0 caT 3 (([] : List Call).flatMap encCa)] ++ [gateA b g], ⟨_, ⟨_, _, rfl, rfl⟩, rfl⟩, ?_⟩
    exact Imp.trans (Imp.nilS caT 3) II
  have hd2 : (tickG g).1 = (if 0 < g.left - 1 then [] else g.wait) ∧ (tickG g).2 = (if 0 < g.left - 1 then { g with left := g.left - 1 } else g.opened) := by
    rw [hdef, if_neg h0]
    split <;> exact ⟨rfl, rfl⟩
  rw [hd2.1, hd2.2]
  generalize (if 0 < g.left - 1 then [] else g.wait) = lw at *
  generalize (if 0 < g.left - 1 then { g with left := g.left - 1 } else g.opened) = g' at *
  repeat (first | refine GD ?_ | refine NW fun _ => ?_)
  refine WL.step rfl (OP.call (pre := [gateA b g]) rfl rfl hop PS rfl rfl ?_)
  rintro _ _ ⟨E, ⟨a, cap, rfl, rfl⟩, rfl⟩
  repeat (first | refine GD ?_ | refine NW fun _ => ?_)
  exact ret1 rfl ⟨[ownS a lw.length cap caT 3 (lw.flatMap encCa)] ++ [gateA b g'], ⟨_, ⟨a, cap, rfl, rfl⟩, rfl⟩, II⟩
end Go.Proofs.YtleajkobmhhacaaGreatDoor
/- Contracts of functions of the given program, and plain laws on what they compute: parts of the proofs of laws. -/

namespace Go.Proofs.YtleajkobmhhacaaGreatDoor
open Go Go.GL

set_option maxRecDepth 10000 in
theorem vrecords_rt (v p : Nat) (V : Vol) (hV : V.rng) : RT G 128 [.pointer (some ⟨v, 0, none⟩)] (vol v p V) (RecsPost V.J.held) := by
  refine RT.enterEx Tryz.func128 rfl (by decide) rfl Tryz.ntmps128 rfl (fun j A hu hA => ?_)
  have hC : ∀ {L} {i : Nat} {x : Value}, (volC p j V.J.ring V.laid V.blks)[i]? = some x → A ∈ L → Ent L (cellAt v i x) := fun h m => Ent.of hu hA m (Ent.volAt (List.Mem.head _) h)
  have hE : ∀ {L}, A ∈ L → Ent L (jrn j p V.J) := fun m => Ent.of hu hA m (Ent.at (up_jrn j p V.J) (List.Mem.tail _ (List.Mem.head _)))
  repeat (first | refine GD ?_ | refine NW fun _ => ?_)
  refine WL.step rfl (OP.load1 (v := .pointer (some ⟨j, 0, none⟩)) rfl rfl rfl rfl (hC rfl MM) rfl rfl ?_)
  repeat (first | refine GD ?_ | refine NW fun _ => ?_)
  refine WL.step rfl (OP.callRT rfl rfl (jrecords_rt j p V.J hV.J) (hE MM) rfl rfl ?_)
  rintro _ _ ⟨ar, capr, rfl, rfl⟩
  repeat (first | refine GD ?_ | refine NW fun _ => ?_)
  exact ret1 rfl ⟨_, ⟨ar, capr, rfl, rfl⟩, Imp.refl _⟩
end Go.Proofs.YtleajkobmhhacaaGreatDoor
/- Contracts of functions of the given program, and plain laws on what they compute: parts of the proofs of laws. -/

namespace Go.Proofs.YtleajkobmhhacaaGreatDoor
open Go Go.GL

/-! power ends -/
theorem bit_u64 {t : Int} (h : 0 ≤ t ∧ t ≤ 18446744073709551615) {i : Nat} (hi : i < 64) : (bitsV .and .u64 (shrV .u64 t (i : Int)) 1 = 1) ↔ t.toNat.testBit i = true := by
  obtain ⟨n, rfl⟩ : ∃ n : Nat, t = n := ⟨t.toNat, by omega⟩
  have e : shrV .u64 (n : Int) (i : Int) = ((n / 2 ^ i : Nat) : Int) := by
    unfold shrV
    rw [Int.toNat_natCast, Nat.min_eq_left (by show i ≤ 64; omega), Int.fdiv_eq_ediv_of_nonneg _ (by exact Int.pow_nonneg (by decide)), Int.natCast_ediv, Int.natCast_pow]; rfl
  have hlt : n / 2 ^ i < 2 ^ 64 := Nat.lt_of_le_of_lt (Nat.div_le_self _ _) (by omega)
  rw [e, Int.toNat_natCast, Nat.testBit_eq_decide_div_mod_eq, decide_eq_true_eq]
  generalize n / 2 ^ i = m at *
  have h1 : (BitVec.ofInt 64 (m : Int)).toNat = m := by rw [BitVec.toNat_ofInt]; omega
  have h2 : (BitVec.ofInt 64 (m : Int) &&& BitVec.ofInt 64 1).toNat = m % 2 := by
    rw [BitVec.toNat_and, h1]; exact Nat.and_one_is_mod _
  show IntKind.u64.wrap ((BitVec.ofInt 64 (m : Int) &&& BitVec.ofInt 64 1).toNat : Int) = 1 ↔ _
  rw [h2, wrap_fit (k := .u64) (by unfold Fit; omega)]
  omega
set_option maxRecDepth 10000 in
theorem dcrash1_ro (c : Nat) (keep : Int) (hk : 0 ≤ keep ∧ keep < 18446744073709551616) (j : Nat) : RO G 167 [.int .i64 j, .pointer (some ⟨c, 0, none⟩)] (cellAt c 0 (.int .u64 keep)) (.bool (keeps keep j)) := by
  refine RO.enter Tryz.func167 rfl (by decide) rfl Tryz.ntmps167 rfl (fun A hu hA => ?_) (up_cellAt _ _ _)
  repeat (first | refine GO ?_ | refine NW fun _ => ?_)
  refine WL.step rfl (OP.load1 (v := .int .u64 keep) rfl rfl rfl rfl (Ent.mem MM hu hA) rfl rfl ?_)
  repeat (first | refine GO ?_ | refine NW fun _ => ?_)
  refine ret1 rfl ⟨?_, MM⟩
  have e : (decide (bitsV BinOp.and IntKind.u64 (shrV IntKind.u64 keep ((j : Int) % 64)) 1 = 1)) = keeps keep j := by
    have hb := bit_u64 (t := keep) (by omega) (show j % 64 < 64 by omega)
    rw [show ((j : Int) % 64) = ((j % 64 : Nat) : Int) by omega]
    unfold keeps
    cases hx : keep.toNat.testBit (j % 64)
    · exact decide_eq_false (fun h => by rw [hb.1 h] at hx; cases hx)
    · exact decide_eq_true (hb.2 hx)
  rw [e]
theorem Imp.blkC {b : Nat} {v : Value} {T : TypeId} {L : List Assn} : Imp (blk b [v] T :: L) (cellAt b 0 v :: L) :=
  fun _ s => stars_head_mono (fun h x => (Ent.blk (L := [blk b [v] T]) (List.Mem.head _) rfl) h ⟨h, Hp.empty, fun _ => .inr rfl, by funext b; simp [Hp.join, Hp.empty], x, trivial⟩) s
/-- a power's end: what is loose is kept, or not, as the number's bits tell -/
theorem dcrash_ok (p : Nat) (D : Dsk) (keep : Int) (hk : 0 ≤ keep ∧ keep < 18446744073709551616) (hD : D.ok) (hw : D.W.length < 1000000) : Triple G 98 [.pointer (some ⟨p, 0, none⟩), .int .u64 keep] [dsk p D] (fun v M => v = .tuple #[] ∧ M = [dsk p (D.crash keep)]) := by
  refine Triple.enter Tryz.func98 rfl (by decide) rfl Tryz.ntmps98 rfl (fun F => ?_)
  repeat (first | refine GO ?_ | refine NW fun _ => ?_)
  rename_i c
  refine WL.step rfl (OP.makeF rfl rfl rfl rfl ?_)
  repeat (first | refine GO ?_ | refine NW fun _ => ?_)
  refine WL.step rfl (OP.call (pre := [dsk p D, cellAt c 0 (.int .u64 keep)]) rfl rfl (dsettle_ok p D hD hw 167 [.pointer (some ⟨c, 0, none⟩)] (cellAt c 0 (.int .u64 keep)) (up_cellAt _ _ _) (keeps keep) (fun j _ => dcrash1_ro c keep hk j)) (Imp.blkC.trans PS) rfl rfl ?_)
  rintro _ _ ⟨rfl, rfl⟩
  repeat (first | refine GO ?_ | refine NW fun _ => ?_)
  exact ret0n ⟨_, ⟨rfl, rfl⟩, II⟩
end Go.Proofs.YtleajkobmhhacaaGreatDoor
/- Contracts of functions of the given program, and plain laws on what they compute: parts of the proofs of laws. -/

namespace Go.Proofs.YtleajkobmhhacaaGreatDoor
open Go Go.GL

/-! a primary in memory -/
abbrev pnT : TypeId := 207
abbrev ptr (x : Nat) : Value := .pointer (some ⟨x, 0, none⟩)
def pndC (q : Nat) (ring : Int) (v g s : Value) (marked floor acked : Int) : List Value := [.pointer (some ⟨q, 0, none⟩), .int .i64 ring, v, g, s, .int .i64 marked, .int .i64 floor, .int .i64 acked]
def priL (p q : Nat) (P : Pri) (x : Nat × Nat × Nat) : List Assn := [blk p (pndC q P.V.J.ring (.pointer (some ⟨x.1, 0, none⟩)) (.pointer (some ⟨x.2.1, 0, none⟩)) (.pointer (some ⟨x.2.2, 0, none⟩)) P.marked P.floor P.acked) pnT, vol x.1 q P.V, gateA x.2.1 P.G, siteA x.2.2 P.S]
def priA (p q : Nat) (P : Pri) : Assn := exA (priL p q P)
theorem up_priA (p q : Nat) (P : Pri) : Up (priA p q P) := up_exA _
theorem priFold (p q : Nat) (P : Pri) (v g s : Nat) {N : List Assn} : Imp (blk p (pndC q P.V.J.ring (.pointer (some ⟨v, 0, none⟩)) (.pointer (some ⟨g, 0, none⟩)) (.pointer (some ⟨s, 0, none⟩)) P.marked P.floor P.acked) pnT :: vol v q P.V :: gateA g P.G :: siteA s P.S :: N) (priA p q P :: N) := Imp.fold (Ls := priL p q P) (v, g, s)
theorem pwrong_nil (at_ : Int) : RO G 104 [.int .i64 at_, .nilIface] (fun _ => True) .nilIface := by
  refine RO.enter Tryz.func104 rfl (by decide) rfl Tryz.ntmps104 rfl (fun A hu hA => ?_) (fun _ _ _ h => h)
  repeat (first | refine GO ?_ | refine NW fun _ => ?_)
  refine WL.step rfl (OP.callRO rfl rfl (wrap_nil primT at_) (fun _ _ => trivial) rfl rfl ?_)
  repeat (first | refine GO ?_ | refine NW fun _ => ?_)
  exact ret1 rfl ⟨rfl, MM⟩
set_option maxRecDepth 10000 in
theorem pwrong_ok (at_ : Int) (ch : Chain) (c : Int) (h : ¬ (ch = [] ∧ c = 0)) : Triple G 104 [.int .i64 at_, valOf ch c] [chainR ch c] (IsEr (some ((primT, at_) :: ch.map Prod.snd, c))) := by
  refine Triple.enter Tryz.func104 rfl (by decide) rfl Tryz.ntmps104 rfl (fun F => ?_)
  repeat (first | refine GO ?_ | refine NW fun _ => ?_)
  refine WL.step rfl (OP.call (pre := [chainR ch c]) rfl rfl (wrapC_ok primT at_ ch c h) PS rfl rfl ?_)
  intro v M hM
  repeat (first | refine GO ?_ | refine NW fun _ => ?_)
  exact ret1 rfl ⟨M, hM, Imp.refl _⟩
theorem pwrong_any (at_ : Int) (o : Er) (e : Value) (E : List Assn) (h : IsEr o e E) (hc : ∀ l c, o = some (l, c) → c ≠ 0) : Triple G 104 [.int .i64 at_, e] E (IsEr (wrapE primT at_ o)) := by
  cases o with
  | none =>
    obtain ⟨rfl, rfl⟩ := h
    exact ((pwrong_nil at_).triple (M := []) (fun _ _ => trivial)).mono fun v M ⟨h1, h2⟩ => ⟨[], ⟨h1, rfl⟩, by rw [h2]; exact Imp.refl _⟩
  | some lc =>
    obtain ⟨l, c⟩ := lc
    obtain ⟨ch, rfl, rfl, rfl⟩ := h
    exact pwrong_ok at_ ch c (fun x => hc _ _ rfl x.2)
set_option maxRecDepth 10000 in
theorem pdown_nil : RO G 107 [.pointer none] (fun _ => True) (.bool true) := by
  refine RO.enter Tryz.func107 rfl (by decide) rfl Tryz.ntmps107 rfl (fun A hu hA => ?_) (fun _ _ _ h => h)
  repeat (first | refine GO ?_ | refine NW fun _ => ?_)
  exact ret1 rfl ⟨rfl, MM⟩
set_option maxRecDepth 10000 in
theorem pdown_ro (p q : Nat) (ring : Int) (v : Nat) (g s : Value) (marked floor acked : Int) : RO G 107 [.pointer (some ⟨p, 0, none⟩)] (blk p (pndC q ring (.pointer (some ⟨v, 0, none⟩)) g s marked floor acked) pnT) (.bool false) := by
  refine RO.enter Tryz.func107 rfl (by decide) rfl Tryz.ntmps107 rfl (fun A hu hA => ?_) (up_blk _ _ _)
  have hC : ∀ {L} {i : Nat} {x : Value}, (pndC q ring (.pointer (some ⟨v, 0, none⟩)) g s marked floor acked)[i]? = some x → A ∈ L → Ent L (cellAt p i x) := fun h m => Ent.of1 hu hA m (Ent.blk (T := pnT) (List.Mem.head _) h)
  repeat (first | refine GO ?_ | refine NW fun _ => ?_)
  refine WL.guardT rfl rfl rfl rfl (OP.load1 (v := .pointer (some ⟨v, 0, none⟩)) rfl rfl rfl rfl (hC (i := 2) rfl MM) rfl rfl ?_)
  repeat (first | refine GO ?_ | refine NW fun _ => ?_)
  exact ret1 rfl ⟨rfl, MM⟩
theorem pri_cell {p q : Nat} {P : Pri} {v g s : Nat} {L : List Assn} (m : blk p (pndC q P.V.J.ring (.pointer (some ⟨v, 0, none⟩)) (.pointer (some ⟨g, 0, none⟩)) (.pointer (some ⟨s, 0, none⟩)) P.marked P.floor P.acked) pnT ∈ L) {i : Nat} {x : Value} (h : (pndC q P.V.J.ring (.pointer (some ⟨v, 0, none⟩)) (.pointer (some ⟨g, 0, none⟩)) (.pointer (some ⟨s, 0, none⟩)) P.marked P.floor P.acked)[i]? = some x) : Ent L (cellAt p i x) := Ent.blk (T := pnT) m h
set_option maxHeartbeats 2000000 in
set_option maxRecDepth 10000 in
theorem pgrant_ok (p q : Nat) (P : Pri) (e now : Int) (hs : P.S.ok) : Triple G 45 [.pointer (some ⟨p, 0, none⟩), .int .i64 e, .int .i64 now] [priA p q P] (fun v M => ∃ E, IsEr (grantP P e now).1 v E ∧ M = E ++ [priA p q (grantP P e now).2]) := by
  refine Triple.enter Tryz.func45 rfl (by decide) rfl Tryz.ntmps45 rfl (fun F => ?_)
  refine WC.open (M := [F]) (Ls := priL p q P) II (fun x => ?_)
  obtain ⟨v, g, s⟩ := x
  unfold priL
  dsimp only [List.cons_append, List.nil_append]
  have hdn := pdown_ro p q P.V.J.ring v (.pointer (some ⟨g, 0, none⟩)) (.pointer (some ⟨s, 0, none⟩)) P.marked P.floor P.acked
  have hg := lgrant_ok s P.S hs e now
  repeat (first | refine GD ?_ | refine NW fun _ => ?_)
  refine WL.step rfl (OP.callRO rfl rfl hdn (Ent.at (up_blk _ _ _) MM) rfl rfl ?_)
  repeat (first | refine GD ?_ | refine NW fun _ => ?_)
  refine WL.step rfl (OP.call (pre := [siteA s P.S]) rfl rfl hg PS rfl rfl ?_)
  rintro er _ ⟨E, hE, rfl⟩
  rw [List.append_assoc]
  repeat (first | refine GD ?_ | refine NW fun _ => ?_)
  refine WL.step rfl (OP.call (pre := E) rfl rfl (pwrong_any e _ er E hE ?_) (Imp.refl _) rfl rfl ?_)
  · intro l c h
    cases hq : (grantS P.S e now).1 with
    | none => rw [hq] at h; cases h
    | some k =>
      rw [hq] at h
      cases h
      exact grantS_code hq
  intro w M hM
  repeat (first | refine GD ?_ | refine NW fun _ => ?_)
  refine ret1 rfl ⟨M ++ [priA p q (grantP P e now).2], ⟨M, ?_, rfl⟩, ?_⟩
  · have : (grantP P e now).1 = wrapE primT e ((grantS P.S e now).1.map (leEr e)) := by
      unfold grantP
      cases (grantS P.S e now).1 <;> rfl
    rw [this]
    exact hM
  · rw [List.append_assoc]
    refine Imp.appL ?_ _
    exact Imp.trans II (priFold p q (grantP P e now).2 v g s (N := [F]))
end Go.Proofs.YtleajkobmhhacaaGreatDoor
/- Contracts of functions of the given program, and plain laws on what they compute: parts of the proofs of laws. -/

namespace Go.Proofs.YtleajkobmhhacaaGreatDoor
open Go Go.GL

/-! a primary: what reads, and writes -/
set_option maxHeartbeats 2000000 in
set_option maxRecDepth 10000 in
theorem pfrozen_ro (p q : Nat) (P : Pri) : RO G 51 [.pointer (some ⟨p, 0, none⟩)] (priA p q P) (.tuple #[.int .i64 P.G.round, .int .i64 P.G.wait.length]) := by
  refine RO.enterEx Tryz.func51 rfl (by decide) rfl Tryz.ntmps51 rfl (fun x A hu hA => ?_)
  obtain ⟨v, g, s⟩ := x
  have hB : ∀ {L}, A ∈ L → Ent L (blk p (pndC q P.V.J.ring (.pointer (some ⟨v, 0, none⟩)) (.pointer (some ⟨g, 0, none⟩)) (.pointer (some ⟨s, 0, none⟩)) P.marked P.floor P.acked) pnT) := fun m => Ent.of hu hA m (Ent.at (up_blk _ _ _) (List.Mem.head _))
  have hC : ∀ {L} {i : Nat} {y : Value}, A ∈ L → (pndC q P.V.J.ring (.pointer (some ⟨v, 0, none⟩)) (.pointer (some ⟨g, 0, none⟩)) (.pointer (some ⟨s, 0, none⟩)) P.marked P.floor P.acked)[i]? = some y → Ent L (cellAt p i y) := fun m h => Ent.of hu hA m (Ent.blk (T := pnT) (List.Mem.head _) h)
  have hG : ∀ {L}, A ∈ L → Ent L (gateA g P.G) := fun m => Ent.of hu hA m (Ent.at (up_gateA _ _) (List.Mem.tail _ (List.Mem.tail _ (List.Mem.head _))))
  have hdn := pdown_ro p q P.V.J.ring v (.pointer (some ⟨g, 0, none⟩)) (.pointer (some ⟨s, 0, none⟩)) P.marked P.floor P.acked
  repeat (first | refine GD ?_ | refine NW fun _ => ?_)
  refine WL.step rfl (OP.callRO rfl rfl hdn (hB MM) rfl rfl ?_)
  repeat (first | refine GD ?_ | refine NW fun _ => ?_)
  refine RD 12 12 (_) ?_
  refine WP 0 ?_
  refine WP 1 ?_
  refine WP 2 ?_
  refine VL 3 (.pointer (some ⟨g, 0, none⟩)) rfl rfl rfl rfl (.inl ⟨rfl, hC (i := 3) MM rfl⟩) ?_
  refine WP 5 ?_
  refine WP 6 ?_
  refine WP 7 ?_
  refine VL 8 (.pointer (some ⟨g, 0, none⟩)) rfl rfl rfl rfl (.inl ⟨rfl, hC (i := 3) MM rfl⟩) ?_
  refine WH.only 4 rfl rfl (by kernel_rfl) rfl (OP.callRO rfl rfl (gfrozen_ro g P.G) (hG MM) rfl rfl ⟨fun _ => II, ?_⟩)
  refine WH.only 9 rfl rfl (by kernel_rfl) rfl (OP.callRO rfl rfl (gwaiting_ro g P.G) (hG MM) rfl rfl ⟨fun _ => II, ?_⟩)
  refine WP 10 ?_
  refine WP 11 ?_
  refine DN ?_
  repeat (first | refine GD ?_ | refine NW fun _ => ?_)
  exact ret2 rfl rfl ⟨rfl, MM⟩
set_option maxHeartbeats 2000000 in
set_option maxRecDepth 10000 in
theorem pnext_ro (p q : Nat) (P : Pri) (hV : P.V.rng) : RO G 46 [.pointer (some ⟨p, 0, none⟩)] (priA p q P) (.tuple #[.int .i64 P.V.J.next, .int .i64 P.acked]) := by
  refine RO.enterEx Tryz.func46 rfl (by decide) rfl Tryz.ntmps46 rfl (fun x A hu hA => ?_)
  obtain ⟨v, g, s⟩ := x
  have hB : ∀ {L}, A ∈ L → Ent L (blk p (pndC q P.V.J.ring (.pointer (some ⟨v, 0, none⟩)) (.pointer (some ⟨g, 0, none⟩)) (.pointer (some ⟨s, 0, none⟩)) P.marked P.floor P.acked) pnT) := fun m => Ent.of hu hA m (Ent.at (up_blk _ _ _) (List.Mem.head _))
  have hC : ∀ {L} {i : Nat} {y : Value}, A ∈ L → (pndC q P.V.J.ring (.pointer (some ⟨v, 0, none⟩)) (.pointer (some ⟨g, 0, none⟩)) (.pointer (some ⟨s, 0, none⟩)) P.marked P.floor P.acked)[i]? = some y → Ent L (cellAt p i y) := fun m h => Ent.of hu hA m (Ent.blk (T := pnT) (List.Mem.head _) h)
  have hVo : ∀ {L}, A ∈ L → Ent L (vol v q P.V) := fun m => Ent.of hu hA m (Ent.at (up_vol _ _ _) (List.Mem.tail _ (List.Mem.head _)))
  have hdn := pdown_ro p q P.V.J.ring v (.pointer (some ⟨g, 0, none⟩)) (.pointer (some ⟨s, 0, none⟩)) P.marked P.floor P.acked
  repeat (first | refine GD ?_ | refine NW fun _ => ?_)
  refine WL.step rfl (OP.callRO rfl rfl hdn (hB MM) rfl rfl ?_)
  repeat (first | refine GD ?_ | refine NW fun _ => ?_)
  refine RD 11 11 (_) ?_
  refine WP 0 ?_
  refine WP 1 ?_
  refine WP 2 ?_
  refine VL 3 (.pointer (some ⟨v, 0, none⟩)) rfl rfl rfl rfl (.inl ⟨rfl, hC (i := 2) MM rfl⟩) ?_
  refine WP 5 ?_
  refine WP 6 ?_
  refine WP 7 ?_
  refine VL 8 (.int .i64 P.acked) rfl rfl rfl rfl (.inl ⟨rfl, hC (i := 7) MM rfl⟩) ?_
  refine WH.only 4 rfl rfl (by kernel_rfl) rfl (OP.callRO rfl rfl (vnext_ro v q P.V hV) (hVo MM) rfl rfl ⟨fun _ => II, ?_⟩)
  refine WP 9 ?_
  refine WP 10 ?_
  refine DN ?_
  repeat (first | refine GD ?_ | refine NW fun _ => ?_)
  exact ret2 rfl rfl ⟨rfl, MM⟩
theorem isEr_hd {l : List (ByteArray × Int)} {c : Int} {v : Value} {E : List Assn} (h : IsEr (some (l, c)) v E) (hl : l ≠ []) : ∃ y ch, ((y :: ch : Chain).map Prod.snd = l) ∧ v = .iface 248 (.pointer (some ⟨y.1, 0, none⟩)) ∧ E = [chainR (y :: ch) c] := by
  obtain ⟨ch, h1, h2, h3⟩ := h
  cases ch with
  | nil => exact absurd h1.symm hl
  | cons y ch => exact ⟨y, ch, h1, h2, h3⟩
def PReadPost (P : Pri) (block : Int) (x : Value) (M : List Assn) : Prop := match readV P.V block with
  | .ok d => x = .tuple #[.string d, .nilIface] ∧ M = []
  | .error (l, c) => ∃ e, IsEr (some ((primT, block) :: l, c)) e M ∧ x = .tuple #[.string ⟨#[]⟩, e]
theorem readV_ne {V : Vol} {block : Int} {l : List (ByteArray × Int)} {c : Int} (h : readV V block = .error (l, c)) : c ≠ 0 := by
  unfold readV at h
  split at h
  · cases h; decide
  · cases h
set_option maxHeartbeats 2000000 in
set_option maxRecDepth 10000 in
theorem pread_rt (p q : Nat) (P : Pri) (block : Int) (hV : P.V.rng) : RT G 50 [.pointer (some ⟨p, 0, none⟩), .int .i64 block] (priA p q P) (PReadPost P block) := by
  refine RT.enterEx Tryz.func50 rfl (by decide) rfl Tryz.ntmps50 rfl (fun x A hu hA => ?_)
  obtain ⟨v, g, s⟩ := x
  have hB : ∀ {L}, A ∈ L → Ent L (blk p (pndC q P.V.J.ring (.pointer (some ⟨v, 0, none⟩)) (.pointer (some ⟨g, 0, none⟩)) (.pointer (some ⟨s, 0, none⟩)) P.marked P.floor P.acked) pnT) := fun m => Ent.of hu hA m (Ent.at (up_blk _ _ _) (List.Mem.head _))
  have hC : ∀ {L} {i : Nat} {y : Value}, A ∈ L → (pndC q P.V.J.ring (.pointer (some ⟨v, 0, none⟩)) (.pointer (some ⟨g, 0, none⟩)) (.pointer (some ⟨s, 0, none⟩)) P.marked P.floor P.acked)[i]? = some y → Ent L (cellAt p i y) := fun m h => Ent.of hu hA m (Ent.blk (T := pnT) (List.Mem.head _) h)
  have hVo : ∀ {L}, A ∈ L → Ent L (vol v q P.V) := fun m => Ent.of hu hA m (Ent.at (up_vol _ _ _) (List.Mem.tail _ (List.Mem.head _)))
  have hdn := pdown_ro p q P.V.J.ring v (.pointer (some ⟨g, 0, none⟩)) (.pointer (some ⟨s, 0, none⟩)) P.marked P.floor P.acked
  repeat (first | refine GD ?_ | refine NW fun _ => ?_)
  refine WL.step rfl (OP.callRO rfl rfl hdn (hB MM) rfl rfl ?_)
  repeat (first | refine GD ?_ | refine NW fun _ => ?_)
  refine WL.step rfl (OP.load1 (v := .pointer (some ⟨v, 0, none⟩)) rfl rfl rfl rfl (hC (i := 2) MM rfl) rfl rfl ?_)
  repeat (first | refine GD ?_ | refine NW fun _ => ?_)
  refine WL.step rfl (OP.callRT rfl rfl (vread_rt v q P.V block hV) (hVo MM) rfl rfl ?_)
  intro w E hE
  unfold VReadPost at hE
  cases hq : readV P.V block with
  | ok d =>
    rw [hq] at hE
    obtain ⟨rfl, rfl⟩ := hE
    repeat (first | refine GD ?_ | refine NW fun _ => ?_)
    refine WL.step rfl (OP.callRO rfl rfl (pwrong_nil block) (fun _ _ => trivial) rfl rfl ?_)
    repeat (first | refine GD ?_ | refine NW fun _ => ?_)
    exact ret2 rfl rfl ⟨[], by unfold PReadPost; rw [hq]; exact ⟨rfl, rfl⟩, Imp.refl _⟩
  | error lc =>
    obtain ⟨l, c⟩ := lc
    rw [hq] at hE
    obtain ⟨e, hE, rfl⟩ := hE
    repeat (first | refine GD ?_ | refine NW fun _ => ?_)
    refine WL.step rfl (OP.call (pre := E) rfl rfl (pwrong_any block _ e E hE (fun _ _ h => by cases h; exact readV_ne hq)) (Imp.refl _) rfl rfl ?_)
    intro w M hM
    repeat (first | refine GD ?_ | refine NW fun _ => ?_)
    exact ret2 rfl rfl ⟨M, by unfold PReadPost; rw [hq]; exact ⟨w, hM, rfl⟩, Imp.refl _⟩
def rightO (c : Call) : Er := if ¬ (0 ≤ c.2.1 ∧ c.2.1 < 8) then some ([], 5) else if 16 < c.2.2.size then some ([], 1) else none
set_option maxHeartbeats 2000000 in
set_option maxRecDepth 10000 in
theorem pright_rt (c : Call) (hsz : c.2.2.size < 1000000) : RT G 109 [.agg (encCa c).toArray] (fun _ => True) (IsEr (rightO c)) := by
  refine RT.enter Tryz.func109 rfl (by decide) rfl Tryz.ntmps109 rfl (fun A hu hA => ?_)
  obtain ⟨id, block, data⟩ := c
  have hdef : rightO (id, block, data) = if ¬ (0 ≤ block ∧ block < 8) then some ([], 5) else if 16 < data.size then some ([], 1) else none := rfl
  rw [show encCa (id, block, data) = [.int .i64 id, .int .i64 block, .string data] from rfl]
  dsimp only at hsz
  by_cases h1 : block < 0
  · rw [if_pos (by omega)] at hdef
    repeat (first | refine GD ?_ | refine NW fun _ => ?_)
    exact ret1 rfl ⟨[fun _ => True], by rw [hdef]; exact ⟨[], rfl, rfl, rfl⟩, Imp.trans (Imp.pureB (p := True) trivial) II⟩
  by_cases h2 : 8 ≤ block
  · rw [if_pos (by omega)] at hdef
    repeat (first | refine GD ?_ | refine NW fun _ => ?_)
    exact ret1 rfl ⟨[fun _ => True], by rw [hdef]; exact ⟨[], rfl, rfl, rfl⟩, Imp.trans (Imp.pureB (p := True) trivial) II⟩
  rw [if_neg (by omega)] at hdef
  by_cases h3 : 16 < data.size
  · rw [if_pos h3] at hdef
    repeat (first | refine GD ?_ | refine NW fun _ => ?_)
    exact ret1 rfl ⟨[fun _ => True], by rw [hdef]; exact ⟨[], rfl, rfl, rfl⟩, Imp.trans (Imp.pureB (p := True) trivial) II⟩
  · rw [if_neg h3] at hdef
    repeat (first | refine GD ?_ | refine NW fun _ => ?_)
    exact ret1 rfl ⟨[], by rw [hdef]; exact ⟨rfl, rfl⟩, II⟩
def DoPost (p q : Nat) (P : Pri) (c : Call) (x : Value) (M : List Assn) : Prop := match doP P c with
  | .ok (k, P') => x = .tuple #[.int .i64 k, .nilIface] ∧ M = [priA p q P', dsk q P'.D]
  | .error er => ∃ e E, IsEr (some er) e E ∧ x = .tuple #[.int .i64 0, e] ∧ M = E ++ [priA p q P, dsk q P.D]
set_option maxHeartbeats 4000000 in
set_option maxRecDepth 10000 in
theorem pdo_ok (p q : Nat) (P : Pri) (B : Int) (I : PInv P B) (hB : B + 4 ≤ widest) (c : Call) (hc : RightC c) : Triple G 111 [.pointer (some ⟨p, 0, none⟩), .agg (encCa c).toArray] [priA p q P, dsk q P.D] (DoPost p q P c) := by
  refine Triple.enter Tryz.func111 rfl (by decide) rfl Tryz.ntmps111 rfl (fun F => ?_)
  refine WC.open (M := [dsk q P.D, F]) (Ls := priL p q P) II (fun x => ?_)
  obtain ⟨v, g, s⟩ := x
  have hdef : doP P c = match writeV P.V P.D c.2.1 c.2.2 with
    | .error e => .error e
    | .ok (V', D') => .ok (P.V.J.next, { P with V := V', D := D'.flush }) := rfl
  have hW := I.W
  have hwr := vwrite_ok v q P.V P.D c.2.1 c.2.2 (I.rng (by omega)) I.V.len (by rw [hW]; decide) (by have := hc.2; omega)
  unfold AppVP at hwr
  have hap : ∀ {V' D'}, writeV P.V P.D c.2.1 c.2.2 = .ok (V', D') → D'.ok ∧ D'.W.length < 10000 ∧ V'.J.ring = P.V.J.ring := fun {V' D'} h => by
    unfold writeV at h
    rw [if_neg (fun h => h hc.1), if_neg (by have := hc.2; omega)] at h
    obtain ⟨I2, e, _⟩ := I.V.append h
    exact ⟨I2.j.dok, I2.j.few, e⟩
  unfold priL
  dsimp only [List.cons_append, List.nil_append]
  obtain ⟨id, block, data⟩ := c
  rw [show encCa (id, block, data) = [.int .i64 id, .int .i64 block, .string data] from rfl]
  dsimp only at hdef hwr hap
  repeat (first | refine GD ?_ | refine NW fun _ => ?_)
  cases hq : writeV P.V P.D block data with
  | error lc =>
    obtain ⟨l, cd⟩ := lc
    rw [hq] at hwr hdef
    refine RD 8 14 (_) ?_
    refine WP 0 ?_
    refine WP 1 ?_
    refine WP 2 ?_
    refine VV 3 ?_
    refine WP 4 ?_
    refine VV 5 ?_
    refine WP 6 ?_
    refine VV 7 ?_
    refine WH.only 8 rfl rfl (by kernel_rfl) rfl (OP.call (pre := [vol v q P.V, dsk q P.D]) rfl rfl hwr PS rfl rfl (fun x M hM => ?_))
    obtain ⟨e, E, hE, rfl, rfl⟩ := hM
    obtain ⟨ch, h1, rfl, rfl⟩ := hE
    refine ⟨(fun h => nomatch h), ?_⟩
    refine WP 9 ?_
    refine WP 10 ?_
    refine WP 11 ?_
    refine WP 12 ?_
    refine WP 13 ?_
    refine DN ?_
    cases ch with
    | nil =>
      dsimp only [valOf]
      repeat (first | refine GD ?_ | refine NW fun _ => ?_)
      refine ret2 rfl rfl ⟨[chainR [] cd] ++ [priA p q P, dsk q P.D], by unfold DoPost; rw [hdef]; exact ⟨_, _, ⟨[], h1, rfl, rfl⟩, rfl, rfl⟩, ?_⟩
      exact Imp.trans II (Imp.trans (priFold p q P v g s (N := [chainR [] cd, dsk q P.D, F])) II)
    | cons y ch =>
      dsimp only [valOf]
      repeat (first | refine GD ?_ | refine NW fun _ => ?_)
      refine ret2 rfl rfl ⟨[chainR (y :: ch) cd] ++ [priA p q P, dsk q P.D], by unfold DoPost; rw [hdef]; exact ⟨_, _, ⟨y :: ch, h1, rfl, rfl⟩, rfl, rfl⟩, ?_⟩
      exact Imp.trans II (Imp.trans (priFold p q P v g s (N := [chainR (y :: ch) cd, dsk q P.D, F])) II)
  | ok y =>
    obtain ⟨V', D'⟩ := y
    obtain ⟨d1, d2, d3⟩ := hap hq
    rw [hq] at hwr hdef
    dsimp only at hwr hdef
    refine RD 8 14 (_) ?_
    refine WP 0 ?_
    refine WP 1 ?_
    refine WP 2 ?_
    refine VV 3 ?_
    refine WP 4 ?_
    refine VV 5 ?_
    refine WP 6 ?_
    refine VV 7 ?_
    refine WH.only 8 rfl rfl (by kernel_rfl) rfl (OP.call (pre := [vol v q P.V, dsk q P.D]) rfl rfl hwr PS rfl rfl (fun x M hM => ?_))
    obtain ⟨rfl, rfl⟩ := hM
    refine ⟨(fun h => nomatch h), ?_⟩
    refine WP 9 ?_
    refine WP 10 ?_
    refine WP 11 ?_
    refine WP 12 ?_
    refine WP 13 ?_
    refine DN ?_
    repeat (first | refine GD ?_ | refine NW fun _ => ?_)
    refine WL.step rfl (OP.call (pre := [vol v q V', dsk q D']) rfl rfl (vflush_ok v q V' D' d1 d2) PS rfl rfl ?_)
    rintro _ _ ⟨rfl, rfl⟩
    repeat (first | refine GD ?_ | refine NW fun _ => ?_)
    refine ret2 rfl rfl ⟨[priA p q { P with V := V', D := D'.flush }, dsk q D'.flush], by unfold DoPost; rw [hdef]; exact ⟨rfl, rfl⟩, ?_⟩
    have hf := priFold p q { P with V := V', D := D'.flush } v g s (N := [dsk q D'.flush, F])
    dsimp only at hf
    rw [d3] at hf
    exact Imp.trans II hf
end Go.Proofs.YtleajkobmhhacaaGreatDoor
/- Contracts of functions of the given program, and plain laws on what they compute: parts of the proofs of laws. -/

namespace Go.Proofs.YtleajkobmhhacaaGreatDoor
open Go Go.GL

/-! a primary: Freeze, Mark, Ack -/
theorem psectors_ro (r : Int) (h : -9000000000000000000 ≤ r ∧ r ≤ 9000000000000000000) : RO G 42 [.int .i64 r] (fun _ => True) (.int .i64 (r + 11)) := by
  refine RO.enter Tryz.func42 rfl (by decide) rfl Tryz.ntmps42 rfl (fun A hu hA => ?_) (fun _ _ _ h => h)
  repeat (first | refine GO ?_ | refine NW fun _ => ?_)
  refine WL.step rfl (OP.callRO rfl rfl (vsectors_ro r h) (fun _ _ => trivial) rfl rfl ?_)
  have e : 2 + r + 8 + 1 = r + 11 := by omega
  repeat (first | refine GO ?_ | refine NW fun _ => ?_)
  rw [e]
  exact ret1 rfl ⟨rfl, MM⟩
set_option maxRecDepth 10000 in
theorem pwrong1_ok (at_ c : Int) (h : c ≠ 0) : Triple G 104 [.int .i64 at_, .iface 91 (.int .i64 c)] [] (IsEr (some ([(primT, at_)], c))) := by
  refine Triple.enter Tryz.func104 rfl (by decide) rfl Tryz.ntmps104 rfl (fun F => ?_)
  repeat (first | refine GO ?_ | refine NW fun _ => ?_)
  refine WL.step rfl (OP.call (pre := []) rfl rfl (wrap_ok primT at_ c h) PS rfl rfl ?_)
  intro v M hM
  obtain ⟨M', h1, h2⟩ := hM.isEr
  repeat (first | refine GO ?_ | refine NW fun _ => ?_)
  exact ret1 rfl ⟨M', h1, Imp.app h2 _⟩
def ErPost (p q : Nat) (R : Er × Pri) (x : Value) (M : List Assn) : Prop := ∃ E, IsEr R.1 x E ∧ M = E ++ [priA p q R.2, dsk q R.2.D]
set_option maxHeartbeats 8000000 in
set_option maxRecDepth 10000 in
theorem pfreeze_ok (p q : Nat) (P : Pri) (B : Int) (I : PInv P B) (round : Int) : Triple G 47 [.pointer (some ⟨p, 0, none⟩), .int .i64 round] [priA p q P, dsk q P.D] (ErPost p q (freezeP P round)) := by
  refine Triple.enter Tryz.func47 rfl (by decide) rfl Tryz.ntmps47 rfl (fun F => ?_)
  refine WC.open (M := [dsk q P.D, F]) (Ls := priL p q P) II (fun x => ?_)
  obtain ⟨v, g, s⟩ := x
  have hw := widest_eq
  have hdef : freezeP P round = if widest < round then (some ([(primT, round)], 1), P)
    else match freezeG P.G round 6 with
    | .error c => (some ([(primT, round), (gateT, round)], c), P)
    | .ok g => (none, if P.floor < round then { P with G := g, floor := round, D := (P.D.put (P.V.J.ring + 10) (floorS round)).flush } else { P with G := g }) := rfl
  have hfr := I.fr
  have hr := I.V.j.ring
  have hlen := I.len
  have hdn := pdown_ro p q P.V.J.ring v (.pointer (some ⟨g, 0, none⟩)) (.pointer (some ⟨s, 0, none⟩)) P.marked P.floor P.acked
  have hgf := gfreeze_ok g P.G round 6
  unfold FreezeG at hgf
  have hfold := fun (N : List Assn) => priFold p q P v g s (N := N)
  unfold priL
  dsimp only [List.cons_append, List.nil_append]
  unfold pndC at *
  repeat (first | refine GD ?_ | refine NW fun _ => ?_)
  refine WL.step rfl (OP.callRO rfl rfl hdn (Ent.at (up_blk _ _ _) MM) rfl rfl ?_)
  by_cases h1 : 1152921504606846975 < round
  · rw [if_pos (by omega)] at hdef
    repeat (first | refine GD ?_ | refine NW fun _ => ?_)
    refine WL.step rfl (OP.call (pre := []) rfl rfl (pwrong1_ok round 1 (by decide)) PS rfl rfl ?_)
    intro w M hM
    repeat (first | refine GD ?_ | refine NW fun _ => ?_)
    refine ret1 rfl ⟨M ++ [priA p q P, dsk q P.D], by unfold ErPost; rw [hdef]; exact ⟨M, hM, rfl⟩, ?_⟩
    rw [List.append_assoc]
    exact Imp.appL (Imp.trans II (Imp.trans (hfold [dsk q P.D, F]) II)) M
  rw [if_neg (by omega)] at hdef
  repeat (first | refine GD ?_ | refine NW fun _ => ?_)
  refine WL.step rfl (OP.call (pre := [gateA g P.G]) rfl rfl hgf PS rfl rfl ?_)
  intro er M hM
  cases hq : freezeG P.G round 6 with
  | error c =>
    rw [hq] at hM hdef
    obtain ⟨E, hE, rfl⟩ := hM
    obtain ⟨y, ch, hc1, rfl, rfl⟩ := isEr_hd hE (by simp)
    dsimp only [List.cons_append, List.nil_append]
    have hwr := pwrong_ok round (y :: ch) c (fun h => nomatch h.1)
    dsimp only [valOf] at hwr
    repeat (first | refine GD ?_ | refine NW fun _ => ?_)
    refine WL.step rfl (OP.call (pre := [chainR (y :: ch) c]) rfl rfl hwr PS rfl rfl ?_)
    intro w M hM
    rw [hc1] at hM
    repeat (first | refine GD ?_ | refine NW fun _ => ?_)
    refine ret1 rfl ⟨M ++ [priA p q P, dsk q P.D], by unfold ErPost; rw [hdef]; exact ⟨M, hM, rfl⟩, ?_⟩
    rw [List.append_assoc]
    exact Imp.appL (Imp.trans II (Imp.trans (hfold [dsk q P.D, F]) II)) M
  | ok g2 =>
    rw [hq] at hM hdef
    obtain ⟨rfl, rfl⟩ := hM
    dsimp only [List.cons_append, List.nil_append] at hdef ⊢
    have hr1 : 1 ≤ round := by
      unfold freezeG at hq
      split at hq
      · cases hq
      · rename_i h; omega
    by_cases h3 : P.floor < round
    rotate_left
    · rw [if_neg h3] at hdef
      repeat (first | refine GD ?_ | refine NW fun _ => ?_)
      refine ret1 rfl ⟨[] ++ [priA p q { P with G := g2 }, dsk q P.D], by unfold ErPost; rw [hdef]; exact ⟨[], ⟨rfl, rfl⟩, rfl⟩, ?_⟩
      have hf := priFold p q { P with G := g2 } v g s (N := [dsk q P.D, F])
      exact Imp.trans II hf
    rw [if_pos h3] at hdef
    have hfS : floorS round = sectorM (numB (clampN round)) := by unfold floorS; rw [if_neg (by omega)]
    have h64 : (sectorM (numB (clampN round))).length = 64 := sectorM_len (flB_len round)
    have hwr := fun a cap => dwrite_ok q P.D (P.V.J.ring + 10 : Nat) (sectorM (numB (clampN round))) a cap (by rw [I.W]; decide) (by omega)
    have hfs := fsector_rt round
    have hok : (P.D.put (P.V.J.ring + 10) (floorS round)).ok := Dsk.put_ok I.V.j.dok (by omega) (floorS_len round)
    have hfl := dflush_ok q (P.D.put (P.V.J.ring + 10) (floorS round)) hok (by show (P.D.W ++ [_]).length < 1000000; rw [I.W]; exact (by decide : (0 + 1 : Nat) < 1000000))
    have hsc := psectors_ro P.V.J.ring (by omega)
    have he : (P.V.J.ring : Int) + 11 - 1 = (P.V.J.ring + 10 : Nat) := by omega
    rw [← hfS] at hwr hfs h64
    rw [← he] at hwr
    have het : ((P.V.J.ring : Int) + 11 - 1).toNat = P.V.J.ring + 10 := by omega
    generalize floorS round = fS at *
    repeat (first | refine GD ?_ | refine NW fun _ => ?_)
    refine RD 12 13 (_) ?_
    refine WP 0 ?_
    refine WP 1 ?_
    refine WP 2 ?_
    refine VV 3 ?_
    refine WP 4 ?_
    refine WP 5 ?_
    refine WP 6 ?_
    refine VV 7 ?_
    refine WP 10 ?_
    refine WH.only 8 rfl rfl (by kernel_rfl) rfl (OP.callRO rfl rfl (hsc) ((fun _ _ => trivial)) rfl rfl ⟨fun _ => II, ?_⟩)
    refine WP 9 ?_
    refine WH.only 11 rfl rfl (by kernel_rfl) rfl (OP.callRT rfl rfl hfs (fun _ _ => trivial) rfl rfl (fun v E hE' => ?_))
    obtain ⟨a6, cap6, rfl, rfl⟩ := hE'
    refine ⟨fun _ => II, ?_⟩
    refine WH.only 12 rfl rfl (by kernel_rfl) rfl (OP.call (pre := [dsk q P.D, ownS a6 fS.length cap6 5 1 (fS.map byteV)]) rfl rfl (hwr a6 cap6) PS rfl rfl (fun v M hM => ?_))
    unfold WrPost at hM
    rw [if_pos ⟨by omega, h64⟩, het] at hM
    obtain ⟨rfl, rfl⟩ := hM
    refine ⟨(fun h => nomatch h), ?_⟩
    refine DN ?_
    repeat (first | refine GD ?_ | refine NW fun _ => ?_)
    refine WL.step rfl (OP.call (pre := [dsk q (P.D.put (P.V.J.ring + 10) fS)]) rfl rfl hfl PS rfl rfl ?_)
    rintro _ _ ⟨rfl, rfl⟩
    repeat (first | refine GD ?_ | refine NW fun _ => ?_)
    refine ret1 rfl ⟨[] ++ [priA p q { P with G := g2, floor := round, D := (P.D.put (P.V.J.ring + 10) fS).flush }, dsk q (P.D.put (P.V.J.ring + 10) fS).flush], by unfold ErPost; rw [hdef]; exact ⟨[], ⟨rfl, rfl⟩, rfl⟩, ?_⟩
    have hf := priFold p q { P with G := g2, floor := round, D := (P.D.put (P.V.J.ring + 10) fS).flush } v g s (N := [dsk q (P.D.put (P.V.J.ring + 10) fS).flush, F])
    exact Imp.trans II hf
set_option maxHeartbeats 8000000 in
set_option maxRecDepth 10000 in
theorem pmark_ok (p q : Nat) (P : Pri) (B : Int) (I : PInv P B) (hB : B + 4 ≤ widest) (round : Int) : Triple G 53 [.pointer (some ⟨p, 0, none⟩), .int .i64 round] [priA p q P, dsk q P.D] (ErPost p q (markP P round)) := by
  refine Triple.enter Tryz.func53 rfl (by decide) rfl Tryz.ntmps53 rfl (fun F => ?_)
  refine WC.open (M := [dsk q P.D, F]) (Ls := priL p q P) II (fun x => ?_)
  obtain ⟨v, g, s⟩ := x
  have hdef : markP P round = if round < 1 ∨ P.G.round ≠ round then (some ([(primT, round)], 9), P)
    else if P.marked = round then (none, P)
    else match markV P.V P.D round with
    | .error (l, c) => (some ((primT, round) :: l, c), P)
    | .ok (V', D') => (none, { P with V := V', D := D'.flush, marked := round }) := rfl
  have hfr := I.fr
  have hrn := I.rnd
  have hdn := pdown_ro p q P.V.J.ring v (.pointer (some ⟨g, 0, none⟩)) (.pointer (some ⟨s, 0, none⟩)) P.marked P.floor P.acked
  have hmk := vmark_ok v q P.V P.D round (I.rng (by omega)) I.V.len (by rw [I.W]; decide)
  unfold AppVP at hmk
  have hfold := fun (N : List Assn) => priFold p q P v g s (N := N)
  unfold priL
  dsimp only [List.cons_append, List.nil_append]
  unfold pndC at *
  repeat (first | refine GD ?_ | refine NW fun _ => ?_)
  refine WL.step rfl (OP.callRO rfl rfl hdn (Ent.at (up_blk _ _ _) MM) rfl rfl ?_)
  by_cases h0 : round < 1
  · rw [if_pos (.inl h0)] at hdef
    repeat (first | refine GD ?_ | refine NW fun _ => ?_)
    refine WL.step rfl (OP.call (pre := []) rfl rfl (pwrong1_ok round 9 (by decide)) PS rfl rfl ?_)
    intro w M hM
    repeat (first | refine GD ?_ | refine NW fun _ => ?_)
    refine ret1 rfl ⟨M ++ [priA p q P, dsk q P.D], by unfold ErPost; rw [hdef]; exact ⟨M, hM, rfl⟩, ?_⟩
    rw [List.append_assoc]
    exact Imp.appL (Imp.trans II (Imp.trans (hfold [dsk q P.D, F]) II)) M
  repeat (first | refine GD ?_ | refine NW fun _ => ?_)
  refine WL.guardT rfl rfl rfl rfl (OP.callRO rfl rfl (gfrozen_ro g P.G) (Ent.at (up_gateA _ _) MM) rfl rfl ?_)
  by_cases h1 : P.G.round = round
  rotate_left
  · rw [if_pos (.inr h1)] at hdef
    repeat (first | refine GD ?_ | refine NW fun _ => ?_)
    refine WL.step rfl (OP.call (pre := []) rfl rfl (pwrong1_ok round 9 (by decide)) PS rfl rfl ?_)
    intro w M hM
    repeat (first | refine GD ?_ | refine NW fun _ => ?_)
    refine ret1 rfl ⟨M ++ [priA p q P, dsk q P.D], by unfold ErPost; rw [hdef]; exact ⟨M, hM, rfl⟩, ?_⟩
    rw [List.append_assoc]
    exact Imp.appL (Imp.trans II (Imp.trans (hfold [dsk q P.D, F]) II)) M
  rw [if_neg (fun h => by rcases h with h | h; exact h0 h; exact h h1)] at hdef
  by_cases h2 : P.marked = round
  · rw [if_pos h2] at hdef
    repeat (first | refine GD ?_ | refine NW fun _ => ?_)
    refine ret1 rfl ⟨[] ++ [priA p q P, dsk q P.D], by unfold ErPost; rw [hdef]; exact ⟨[], ⟨rfl, rfl⟩, rfl⟩, ?_⟩
    exact Imp.trans II (Imp.trans (hfold [dsk q P.D, F]) II)
  rw [if_neg h2] at hdef
  repeat (first | refine GD ?_ | refine NW fun _ => ?_)
  refine WL.step rfl (OP.call (pre := [vol v q P.V, dsk q P.D]) rfl rfl hmk PS rfl rfl ?_)
  intro er M hM
  rcases I.mark hB (n := round) (by omega) with ⟨_, hq⟩ | ⟨_, V', D', hq, _, _, _, _, e4, d1, d2, _⟩
  · rw [hq] at hM hdef
    obtain ⟨e, E, hE, rfl, rfl⟩ := hM
    obtain ⟨y, ch, hc1, rfl, rfl⟩ := isEr_hd hE (by simp)
    dsimp only [List.cons_append, List.nil_append]
    have hwr := pwrong_ok round (y :: ch) 6 (fun h => nomatch h.1)
    dsimp only [valOf] at hwr
    repeat (first | refine GD ?_ | refine NW fun _ => ?_)
    refine WL.step rfl (OP.call (pre := [chainR (y :: ch) 6]) rfl rfl hwr PS rfl rfl ?_)
    intro w M hM
    rw [hc1] at hM
    repeat (first | refine GD ?_ | refine NW fun _ => ?_)
    refine ret1 rfl ⟨M ++ [priA p q P, dsk q P.D], by unfold ErPost; rw [hdef]; exact ⟨M, hM, rfl⟩, ?_⟩
    rw [List.append_assoc]
    exact Imp.appL (Imp.trans II (Imp.trans (hfold [dsk q P.D, F]) II)) M
  · rw [hq] at hM hdef
    obtain ⟨rfl, rfl⟩ := hM
    dsimp only [List.cons_append, List.nil_append] at hdef ⊢
    repeat (first | refine GD ?_ | refine NW fun _ => ?_)
    refine WL.step rfl (OP.call (pre := [vol v q V', dsk q D']) rfl rfl (vflush_ok v q V' D' d1 (by omega)) PS rfl rfl ?_)
    rintro _ _ ⟨rfl, rfl⟩
    repeat (first | refine GD ?_ | refine NW fun _ => ?_)
    refine ret1 rfl ⟨[] ++ [priA p q { P with V := V', D := D'.flush, marked := round }, dsk q D'.flush], by unfold ErPost; rw [hdef]; exact ⟨[], ⟨rfl, rfl⟩, rfl⟩, ?_⟩
    have hf := priFold p q { P with V := V', D := D'.flush, marked := round } v g s (N := [dsk q D'.flush, F])
    dsimp only at hf
    rw [e4] at hf
    exact Imp.trans II hf
set_option maxHeartbeats 8000000 in
set_option maxRecDepth 10000 in
theorem pack_ok (p q : Nat) (P : Pri) (B : Int) (I : PInv P B) (hB : B + 4 ≤ widest) (upto : Int) : Triple G 54 [.pointer (some ⟨p, 0, none⟩), .int .i64 upto] [priA p q P, dsk q P.D] (ErPost p q (ackP P upto)) := by
  refine Triple.enter Tryz.func54 rfl (by decide) rfl Tryz.ntmps54 rfl (fun F => ?_)
  refine WC.open (M := [dsk q P.D, F]) (Ls := priL p q P) II (fun x => ?_)
  obtain ⟨v, g, s⟩ := x
  have hdef : ackP P upto = if upto < 0 ∨ P.V.J.next ≤ upto then (some (([(primT, upto)], 5) : Er1), P)
    else if upto ≤ P.acked then (none, P)
    else match ckV P.V P.D upto with
      | .ok (V', D') => (none, { P with V := V', D := D', acked := upto })
      | .error _ => (none, P) := rfl
  have hdn := pdown_ro p q P.V.J.ring v (.pointer (some ⟨g, 0, none⟩)) (.pointer (some ⟨s, 0, none⟩)) P.marked P.floor P.acked
  have hnx := vnext_ro v q P.V (I.rng (by omega))
  have hck := vcheck_ok v q P.V P.D upto (I.rng (by omega)) I.V.j.dok I.V.len (by rw [I.W]; decide)
  unfold CkVP at hck
  have hfold := fun (N : List Assn) => priFold p q P v g s (N := N)
  unfold priL
  dsimp only [List.cons_append, List.nil_append]
  unfold pndC at *
  repeat (first | refine GD ?_ | refine NW fun _ => ?_)
  refine WL.step rfl (OP.callRO rfl rfl hdn (Ent.at (up_blk _ _ _) MM) rfl rfl ?_)
  by_cases h0 : upto < 0
  · rw [if_pos (.inl h0)] at hdef
    repeat (first | refine GD ?_ | refine NW fun _ => ?_)
    refine WL.step rfl (OP.call (pre := []) rfl rfl (pwrong1_ok upto 5 (by decide)) PS rfl rfl ?_)
    intro w M hM
    repeat (first | refine GD ?_ | refine NW fun _ => ?_)
    refine ret1 rfl ⟨M ++ [priA p q P, dsk q P.D], by unfold ErPost; rw [hdef]; exact ⟨M, hM, rfl⟩, ?_⟩
    rw [List.append_assoc]
    exact Imp.appL (Imp.trans II (Imp.trans (hfold [dsk q P.D, F]) II)) M
  repeat (first | refine GD ?_ | refine NW fun _ => ?_)
  refine WL.guardT rfl rfl rfl rfl (OP.callRO rfl rfl hnx (Ent.at (up_vol _ _ _) MM) rfl rfl ?_)
  by_cases h1 : P.V.J.next ≤ upto
  · rw [if_pos (.inr h1)] at hdef
    repeat (first | refine GD ?_ | refine NW fun _ => ?_)
    refine WL.step rfl (OP.call (pre := []) rfl rfl (pwrong1_ok upto 5 (by decide)) PS rfl rfl ?_)
    intro w M hM
    repeat (first | refine GD ?_ | refine NW fun _ => ?_)
    refine ret1 rfl ⟨M ++ [priA p q P, dsk q P.D], by unfold ErPost; rw [hdef]; exact ⟨M, hM, rfl⟩, ?_⟩
    rw [List.append_assoc]
    exact Imp.appL (Imp.trans II (Imp.trans (hfold [dsk q P.D, F]) II)) M
  have hn : ¬ (upto < 0 ∨ P.V.J.next ≤ upto) := fun h => by rcases h with h | h; exact h0 h; exact h1 h
  rw [if_neg hn] at hdef
  by_cases h2 : upto ≤ P.acked
  · rw [if_pos h2] at hdef
    repeat (first | refine GD ?_ | refine NW fun _ => ?_)
    refine ret1 rfl ⟨[] ++ [priA p q P, dsk q P.D], by unfold ErPost; rw [hdef]; exact ⟨[], ⟨rfl, rfl⟩, rfl⟩, ?_⟩
    exact Imp.trans II (Imp.trans (hfold [dsk q P.D, F]) II)
  rw [if_neg h2] at hdef
  obtain ⟨V', D', hq, _, _, e2, _⟩ := I.ackd hB hn h2
  rw [hq] at hdef hck
  dsimp only at hdef hck
  repeat (first | refine GD ?_ | refine NW fun _ => ?_)
  refine WL.step rfl (OP.call (pre := [vol v q P.V, dsk q P.D]) rfl rfl hck PS rfl rfl ?_)
  rintro _ _ ⟨rfl, rfl⟩
  dsimp only [List.cons_append, List.nil_append]
  repeat (first | refine GD ?_ | refine NW fun _ => ?_)
  refine WL.step rfl (OP.callRO rfl rfl (pwrong_nil upto) (fun _ _ => trivial) rfl rfl ?_)
  repeat (first | refine GD ?_ | refine NW fun _ => ?_)
  refine ret1 rfl ⟨[] ++ [priA p q { P with V := V', D := D', acked := upto }, dsk q D'], by unfold ErPost; rw [hdef]; exact ⟨[], ⟨rfl, rfl⟩, rfl⟩, ?_⟩
  have hf := priFold p q { P with V := V', D := D', acked := upto } v g s (N := [dsk q D', F])
  dsimp only at hf
  rw [e2] at hf
  exact Imp.trans II hf
end Go.Proofs.YtleajkobmhhacaaGreatDoor
