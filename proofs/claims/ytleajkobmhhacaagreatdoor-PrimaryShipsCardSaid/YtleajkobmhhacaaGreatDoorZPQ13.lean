/- Contracts of functions of the given program, and plain laws: parts of the proofs of laws. -/
import Derived.Test.YtleajkobmhhacaaGreatDoorZPQ4
import Derived.Test.YtleajkobmhhacaaGreatDoorZPQ12
import Derived.Test.YtleajkobmhhacaaGreatDoorZPQ6
import Derived.Test.YtleajkobmhhacaaGreatDoorZPQ7
/- Contracts of functions of the given program, and plain laws on what they compute: parts of the proofs of laws. -/

namespace Go.Proofs.YtleajkobmhhacaaGreatDoor
open Go Go.GL

def WritePost (p q : Nat) (R : Except Er1 Int × Pri) (x : Value) (M : List Assn) : Prop := match R.1 with
  | .ok k => x = .tuple #[.int .i64 k, .nilIface] ∧ M = [priA p q R.2, dsk q R.2.D]
  | .error er => ∃ e E, IsEr (some er) e E ∧ x = .tuple #[.int .i64 0, e] ∧ M = E ++ [priA p q R.2, dsk q R.2.D]
set_option maxHeartbeats 8000000 in
set_option maxRecDepth 10000 in
theorem pwrite_ok (p q : Nat) (P : Pri) (B : Int) (I : PInv P B) (hB : B + 4 ≤ widest) (c : Call) (hsz : c.2.2.size < 1000000) (e now : Int) : Triple G 43 [.pointer (some ⟨p, 0, none⟩), .agg (encCa c).toArray, .int .i64 e, .int .i64 now] [priA p q P, dsk q P.D] (WritePost p q (writeP P c e now)) := by
  refine Triple.enter Tryz.func43 rfl (by decide) rfl Tryz.ntmps43 rfl (fun F => ?_)
  refine WC.open (M := [dsk q P.D, F]) (Ls := priL p q P) II (fun x => ?_)
  obtain ⟨v, g, s⟩ := x
  have hdef : writeP P c e now = match checkS P.S e now with
    | some k => (.error ([(primT, c.2.1), (leaseT, e)], k), P.at_ now)
    | none => if ¬ (0 ≤ c.2.1 ∧ c.2.1 < 8) then (.error ([(primT, c.2.1)], 5), P.at_ now)
      else if 16 < c.2.2.size then (.error ([(primT, c.2.1)], 1), P.at_ now)
      else enterP (P.at_ now) c := rfl
  have hen : enterP (P.at_ now) c = if P.G.round = 0 then match doP (P.at_ now) c with
      | .error (l, k) => (.error ((primT, c.2.1) :: l, k), P.at_ now)
      | .ok (k, P') => (.ok k, P')
    else if 4 ≤ P.G.wait.length then (.error ([(primT, c.2.1), (gateT, P.G.round)], 7), P.at_ now)
    else (.ok 0, { P.at_ now with G := { P.G with wait := P.G.wait ++ [c] } }) := rfl
  have hdn := pdown_ro p q P.V.J.ring v (.pointer (some ⟨g, 0, none⟩)) (.pointer (some ⟨s, 0, none⟩)) P.marked P.floor P.acked
  have hck := lcheck_ok s P.S e now
  have hrt := pright_rt c hsz
  have hro : rightO c = if ¬ (0 ≤ c.2.1 ∧ c.2.1 < 8) then some ([], 5) else if 16 < c.2.2.size then some ([], 1) else none := rfl
  have hdo := fun hc => pdo_ok p q (P.at_ now) B (I.at_ now) hB c hc
  unfold DoPost at hdo
  have hge := genter_ok g P.G c
  unfold EnterG at hge
  have hfold := fun (N : List Assn) => priFold p q (P.at_ now) v g s (N := N)
  unfold WritePost
  unfold priL
  dsimp only [List.cons_append, List.nil_append]
  have hst : (P.at_ now).S = P.S.at_ now := rfl
  obtain ⟨id, block, data⟩ := c
  have hec : encCa (id, block, data) = [.int .i64 id, .int .i64 block, .string data] := rfl
  rw [hec] at *
  dsimp only at hdef hen hro
  repeat (first | refine GD ?_ | refine NW fun _ => ?_)
  refine WL.step rfl (OP.callRO rfl rfl hdn (Ent.at (up_blk _ _ _) MM) rfl rfl ?_)
  repeat (first | refine GD ?_ | refine NW fun _ => ?_)
  rename_i cb
  refine WL.step rfl (OP.call (pre := [siteA s P.S]) rfl rfl hck PS rfl rfl ?_)
  rintro er _ ⟨E, hE, rfl⟩
  cases hk : checkS P.S e now with
  | some k =>
    rw [hk] at hE hdef
    obtain ⟨y, ch, hc1, rfl, rfl⟩ := isEr_hd hE (by simp)
    have hkn := checkS_ne hk
    dsimp only [List.cons_append, List.nil_append]
    repeat (first | refine GD ?_ | refine NW fun _ => ?_)
    refine WL.step rfl (OP.call (pre := [chainR (y :: ch) k]) rfl rfl (pwrong_ok block (y :: ch) k (fun h => nomatch h.1)) PS rfl rfl ?_)
    intro w M hM
    repeat (first | refine GD ?_ | refine NW fun _ => ?_)
    refine ret2 rfl rfl ⟨M ++ [priA p q (P.at_ now), dsk q P.D], ?_, ?_⟩
    · rw [hdef]
      exact ⟨w, M, (hc1 ▸ hM), rfl, rfl⟩
    · rw [List.append_assoc]
      refine Imp.appL ?_ _
      exact Imp.trans II (Imp.trans (hfold [dsk q P.D, F]) II)
  | none =>
  rw [hk] at hE hdef
  obtain ⟨rfl, rfl⟩ := hE
  dsimp only [List.nil_append] at hdef ⊢
  by_cases h1 : 0 ≤ block ∧ block < 8
  rotate_left
  · rw [if_pos h1] at hdef hro
    rw [hro] at hrt
    repeat (first | refine GD ?_ | refine NW fun _ => ?_)
    refine WL.step rfl (OP.callRT rfl rfl hrt (fun _ _ => trivial) rfl rfl ?_)
    rintro _ _ ⟨ch, hch, rfl, rfl⟩
    cases ch with
    | cons y ch => cases hch
    | nil =>
    dsimp only [valOf, List.cons_append, List.nil_append]
    repeat (first | refine GD ?_ | refine NW fun _ => ?_)
    refine WL.step rfl (OP.call (pre := [chainR [] 5]) rfl rfl (pwrong_ok block [] 5 (fun h => absurd h.2 (by decide))) PS rfl rfl ?_)
    intro w M hM
    repeat (first | refine GD ?_ | refine NW fun _ => ?_)
    refine ret2 rfl rfl ⟨M ++ [priA p q (P.at_ now), dsk q P.D], ?_, ?_⟩
    · rw [hdef]
      exact ⟨w, M, hM, rfl, rfl⟩
    · rw [List.append_assoc]
      refine Imp.appL ?_ _
      exact Imp.trans II (Imp.trans (hfold [dsk q P.D, F]) II)
  rw [if_neg (fun h => h h1)] at hdef hro
  by_cases h2 : 16 < data.size
  · rw [if_pos h2] at hdef hro
    rw [hro] at hrt
    repeat (first | refine GD ?_ | refine NW fun _ => ?_)
    refine WL.step rfl (OP.callRT rfl rfl hrt (fun _ _ => trivial) rfl rfl ?_)
    rintro _ _ ⟨ch, hch, rfl, rfl⟩
    cases ch with
    | cons y ch => cases hch
    | nil =>
    dsimp only [valOf, List.cons_append, List.nil_append]
    repeat (first | refine GD ?_ | refine NW fun _ => ?_)
    refine WL.step rfl (OP.call (pre := [chainR [] 1]) rfl rfl (pwrong_ok block [] 1 (fun h => absurd h.2 (by decide))) PS rfl rfl ?_)
    intro w M hM
    repeat (first | refine GD ?_ | refine NW fun _ => ?_)
    refine ret2 rfl rfl ⟨M ++ [priA p q (P.at_ now), dsk q P.D], ?_, ?_⟩
    · rw [hdef]
      exact ⟨w, M, hM, rfl, rfl⟩
    · rw [List.append_assoc]
      refine Imp.appL ?_ _
      exact Imp.trans II (Imp.trans (hfold [dsk q P.D, F]) II)
  rw [if_neg h2] at hdef hro
  rw [hro] at hrt
  rw [hen] at hdef
  repeat (first | refine GD ?_ | refine NW fun _ => ?_)
  refine WL.step rfl (OP.callRT rfl rfl hrt (fun _ _ => trivial) rfl rfl ?_)
  rintro _ _ ⟨rfl, rfl⟩
  dsimp only [List.nil_append]
  repeat (first | refine GD ?_ | refine NW fun _ => ?_)
  by_cases h0 : P.G.round = 0
  · rw [if_pos h0] at hdef
    have hge' : Triple G 110 [.pointer (some ⟨g, 0, none⟩), .agg #[.int .i64 id, .int .i64 block, .string data]] [gateA g P.G] (fun v M => v = .tuple #[.bool true, .nilIface] ∧ M = [gateA g P.G]) := hge.mono fun v M h => by
      rw [if_pos h0] at h
      exact ⟨M, h, Imp.refl _⟩
    refine RD 5 11 (_) ?_
    refine WP 0 ?_
    refine WP 1 ?_
    refine WP 2 ?_
    refine VV 3 ?_
    refine VL 4 (.agg (encCa (id, block, data)).toArray) rfl rfl rfl rfl (.inr ⟨rfl, encCa (id, block, data), rfl, rfl, Ent.whole MM⟩) ?_
    refine WH.only 5 rfl rfl (by kernel_rfl) rfl (OP.call (pre := [gateA g P.G]) rfl rfl hge' PS rfl rfl (fun x M hM => ?_))
    obtain ⟨rfl, rfl⟩ := hM
    refine ⟨(fun h => nomatch h), ?_⟩
    refine WP 6 ?_
    refine WP 7 ?_
    refine WP 8 ?_
    refine WP 9 ?_
    refine WP 10 ?_
    refine DN ?_
    refine WC.imp (M := [priA p q (P.at_ now), dsk q P.D, blk cb [.int .i64 id, .int .i64 block, .string data] caT, F]) (Imp.trans II (Imp.trans (hfold [dsk q P.D, blk cb [.int .i64 id, .int .i64 block, .string data] caT, F]) II)) ?_
    have hdo' := hdo ⟨h1, by show data.size ≤ 16; omega⟩
    cases hq : doP (P.at_ now) (id, block, data) with
    | error lc =>
      obtain ⟨l, k⟩ := lc
      rw [hq] at hdef hdo'
      dsimp only at hdef hdo'
      repeat (first | refine GD ?_ | refine NW fun _ => ?_)
      refine WL.step rfl (OP.call (pre := [priA p q (P.at_ now), dsk q P.D]) rfl rfl hdo' PS rfl rfl ?_)
      rintro _ _ ⟨e', E, hE, rfl, rfl⟩
      obtain ⟨ch, hc1, rfl, rfl⟩ := hE
      have hkn := doP_ne I hB ⟨h1, by show data.size ≤ 16; omega⟩ hq
      have hwr := pwrong_ok block ch k (fun h => hkn h.2)
      cases ch with
      | nil =>
        dsimp only [valOf, List.cons_append, List.nil_append] at hwr ⊢
        repeat (first | refine GD ?_ | refine NW fun _ => ?_)
        refine WL.step rfl (OP.call (pre := [chainR [] k]) rfl rfl hwr PS rfl rfl ?_)
        intro w M hM
        rw [hc1] at hM
        repeat (first | refine GD ?_ | refine NW fun _ => ?_)
        refine ret2 rfl rfl ⟨M ++ [priA p q (P.at_ now), dsk q P.D], by rw [hdef]; exact ⟨w, M, hM, rfl, rfl⟩, ?_⟩
        rw [List.append_assoc]
        exact Imp.appL II _
      | cons y ch =>
        dsimp only [valOf, List.cons_append, List.nil_append] at hwr ⊢
        repeat (first | refine GD ?_ | refine NW fun _ => ?_)
        refine WL.step rfl (OP.call (pre := [chainR (y :: ch) k]) rfl rfl hwr PS rfl rfl ?_)
        intro w M hM
        rw [hc1] at hM
        repeat (first | refine GD ?_ | refine NW fun _ => ?_)
        refine ret2 rfl rfl ⟨M ++ [priA p q (P.at_ now), dsk q P.D], by rw [hdef]; exact ⟨w, M, hM, rfl, rfl⟩, ?_⟩
        rw [List.append_assoc]
        exact Imp.appL II _
    | ok y =>
      obtain ⟨k, P'⟩ := y
      rw [hq] at hdef hdo'
      dsimp only at hdef hdo'
      repeat (first | refine GD ?_ | refine NW fun _ => ?_)
      refine WL.step rfl (OP.call (pre := [priA p q (P.at_ now), dsk q P.D]) rfl rfl hdo' PS rfl rfl ?_)
      rintro _ _ ⟨rfl, rfl⟩
      dsimp only [List.cons_append, List.nil_append]
      repeat (first | refine GD ?_ | refine NW fun _ => ?_)
      refine WL.step rfl (OP.callRO rfl rfl (pwrong_nil block) (fun _ _ => trivial) rfl rfl ?_)
      repeat (first | refine GD ?_ | refine NW fun _ => ?_)
      exact ret2 rfl rfl ⟨[priA p q P', dsk q P'.D], by rw [hdef]; exact ⟨rfl, rfl⟩, II⟩
  rw [if_neg h0] at hdef
  by_cases h4 : 4 ≤ P.G.wait.length
  · rw [if_pos h4] at hdef
    have hge' : Triple G 110 [.pointer (some ⟨g, 0, none⟩), .agg #[.int .i64 id, .int .i64 block, .string data]] [gateA g P.G] (fun v M => ∃ y E, E = [chainR [y] 7] ∧ [y].map Prod.snd = [(gateT, P.G.round)] ∧ v = .tuple #[.bool false, .iface 248 (.pointer (some ⟨y.1, 0, none⟩))] ∧ M = E ++ [gateA g P.G]) := hge.mono fun v M h => by
      rw [if_neg h0, if_pos h4] at h
      obtain ⟨e, E, hE, rfl, rfl⟩ := h
      obtain ⟨y, ch, hc1, rfl, rfl⟩ := isEr_hd hE (by simp)
      cases ch with
      | nil => exact ⟨_, ⟨y, _, rfl, hc1, rfl, rfl⟩, Imp.refl _⟩
      | cons z ch => simp at hc1
    refine RD 5 11 (_) ?_
    refine WP 0 ?_
    refine WP 1 ?_
    refine WP 2 ?_
    refine VV 3 ?_
    refine VL 4 (.agg (encCa (id, block, data)).toArray) rfl rfl rfl rfl (.inr ⟨rfl, encCa (id, block, data), rfl, rfl, Ent.whole MM⟩) ?_
    refine WH.only 5 rfl rfl (by kernel_rfl) rfl (OP.call (pre := [gateA g P.G]) rfl rfl hge' PS rfl rfl (fun x M hM => ?_))
    obtain ⟨y, _, rfl, hc1, rfl, rfl⟩ := hM
    refine ⟨(fun h => nomatch h), ?_⟩
    refine WP 6 ?_
    refine WP 7 ?_
    refine WP 8 ?_
    refine WP 9 ?_
    refine WP 10 ?_
    refine DN ?_
    repeat (first | refine GD ?_ | refine NW fun _ => ?_)
    refine WL.step rfl (OP.call (pre := [chainR [y] 7]) rfl rfl (pwrong_ok block [y] 7 (fun h => nomatch h.1)) PS rfl rfl ?_)
    intro w M hM
    repeat (first | refine GD ?_ | refine NW fun _ => ?_)
    refine ret2 rfl rfl ⟨M ++ [priA p q (P.at_ now), dsk q P.D], ?_, ?_⟩
    · rw [hdef]
      exact ⟨w, M, (hc1 ▸ hM), rfl, rfl⟩
    · rw [List.append_assoc]
      refine Imp.appL ?_ _
      exact Imp.trans II (Imp.trans (hfold [dsk q P.D, F]) II)
  rw [if_neg h4] at hdef
  have hge' : Triple G 110 [.pointer (some ⟨g, 0, none⟩), .agg #[.int .i64 id, .int .i64 block, .string data]] [gateA g P.G] (fun v M => v = .tuple #[.bool false, .nilIface] ∧ M = [gateA g { P.G with wait := P.G.wait ++ [(id, block, data)] }]) := hge.mono fun v M h => by
    rw [if_neg h0, if_neg h4] at h
    exact ⟨M, h, Imp.refl _⟩
  refine RD 5 11 (_) ?_
  refine WP 0 ?_
  refine WP 1 ?_
  refine WP 2 ?_
  refine VV 3 ?_
  refine VL 4 (.agg (encCa (id, block, data)).toArray) rfl rfl rfl rfl (.inr ⟨rfl, encCa (id, block, data), rfl, rfl, Ent.whole MM⟩) ?_
  refine WH.only 5 rfl rfl (by kernel_rfl) rfl (OP.call (pre := [gateA g P.G]) rfl rfl hge' PS rfl rfl (fun x M hM => ?_))
  obtain ⟨rfl, rfl⟩ := hM
  refine ⟨(fun h => nomatch h), ?_⟩
  refine WP 6 ?_
  refine WP 7 ?_
  refine WP 8 ?_
  refine WP 9 ?_
  refine WP 10 ?_
  refine DN ?_
  repeat (first | refine GD ?_ | refine NW fun _ => ?_)
  refine WL.step rfl (OP.callRO rfl rfl (pwrong_nil block) (fun _ _ => trivial) rfl rfl ?_)
  repeat (first | refine GD ?_ | refine NW fun _ => ?_)
  refine ret2 rfl rfl ⟨[priA p q { P.at_ now with G := { P.G with wait := P.G.wait ++ [(id, block, data)] } }, dsk q P.D], by rw [hdef]; exact ⟨rfl, rfl⟩, ?_⟩
  exact Imp.trans II (priFold p q { P.at_ now with G := { P.G with wait := P.G.wait ++ [(id, block, data)] } } v g s (N := [dsk q P.D, F]))
end Go.Proofs.YtleajkobmhhacaaGreatDoor
/- Contracts of functions of the given program, and plain laws on what they compute: parts of the proofs of laws. -/

namespace Go.Proofs.YtleajkobmhhacaaGreatDoor
open Go Go.GL Go.Extern

/-- a type's handle -/
def hd (t : Nat) : Value := .pointer (some ⟨1, t, none⟩)
def rt (t : Nat) : Value := .iface 329 (.agg #[hd t])
def errT : Value := rt 31
theorem xValueOf : IsExt Tryz.prog 175 (fun args => ReflectliteValue.unpack (args.getD 0 (.tuple #[]))) := fun args w => run_callFunc_extern (e := (fun args => ReflectliteValue.unpack (args.getD 0 (.tuple #[])))) Tryz.func175 (by kernel_rfl) (by kernel_rfl) (by kernel_rfl) (by kernel_rfl) args w
theorem xType : IsExt Tryz.prog 176 (ReflectliteValue.methodAny (ReflectliteValue.valueError "reflectlite.Value.Type" 0) (fun t _ _ _ => ReflectliteType.toType t)) := fun args w => run_callFunc_extern (e := (ReflectliteValue.methodAny (ReflectliteValue.valueError "reflectlite.Value.Type" 0) (fun t _ _ _ => ReflectliteType.toType t))) Tryz.func176 (by kernel_rfl) (by kernel_rfl) (by kernel_rfl) (by kernel_rfl) args w
theorem xIsNil : IsExt Tryz.prog 177 (ReflectliteValue.method (ReflectliteValue.valueError "reflectlite.Value.IsNil" 0) ReflectliteValue.isNil) := fun args w => run_callFunc_extern (e := (ReflectliteValue.method (ReflectliteValue.valueError "reflectlite.Value.IsNil" 0) ReflectliteValue.isNil)) Tryz.func177 (by kernel_rfl) (by kernel_rfl) (by kernel_rfl) (by kernel_rfl) args w
theorem xKind : IsExt Tryz.prog 262 (ReflectliteType.abiMethod fun t => do pure (.int .u8 (← Rtype.kind t))) := fun args w => run_callFunc_extern (e := (ReflectliteType.abiMethod fun t => do pure (.int .u8 (← Rtype.kind t)))) Tryz.func262 (by kernel_rfl) (by kernel_rfl) (by kernel_rfl) (by kernel_rfl) args w
theorem xElem : IsExt Tryz.prog 277 (ReflectliteType.method ReflectliteType.elem) := fun args w => run_callFunc_extern (e := (ReflectliteType.method ReflectliteType.elem)) Tryz.func277 (by kernel_rfl) (by kernel_rfl) (by kernel_rfl) (by kernel_rfl) args w
theorem xImplements : IsExt Tryz.prog 278 (ReflectliteType.relation "Implements" ReflectliteType.implements_) := fun args w => run_callFunc_extern (e := (ReflectliteType.relation "Implements" ReflectliteType.implements_)) Tryz.func278 (by kernel_rfl) (by kernel_rfl) (by kernel_rfl) (by kernel_rfl) args w
theorem xTypeOf : IsExt Tryz.prog 220 ReflectliteType.typeOf := fun args w => run_callFunc_extern (e := ReflectliteType.typeOf) Tryz.func220 (by kernel_rfl) (by kernel_rfl) (by kernel_rfl) (by kernel_rfl) args w
theorem xAssignableTo : IsExt Tryz.prog 275 (ReflectliteType.relation "AssignableTo" ReflectliteType.assignableTo) := fun args w => run_callFunc_extern (e := (ReflectliteType.relation "AssignableTo" ReflectliteType.assignableTo)) Tryz.func275 (by kernel_rfl) (by kernel_rfl) (by kernel_rfl) (by kernel_rfl) args w
theorem xElemV : IsExt Tryz.prog 221 (ReflectliteValue.method (ReflectliteValue.valueError "reflectlite.Value.Elem" 0) ReflectliteValue.elem) := fun args w => run_callFunc_extern (e := (ReflectliteValue.method (ReflectliteValue.valueError "reflectlite.Value.Elem" 0) ReflectliteValue.elem)) Tryz.func221 (by kernel_rfl) (by kernel_rfl) (by kernel_rfl) (by kernel_rfl) args w
theorem xSet : IsExt Tryz.prog 222 ReflectliteValue.set := fun args w => run_callFunc_extern (e := ReflectliteValue.set) Tryz.func222 (by kernel_rfl) (by kernel_rfl) (by kernel_rfl) (by kernel_rfl) args w
theorem mKind (h : Value) (w : World) : (Go.method (Tryz.prog.types.size + Made.depth) 329 (.agg #[h]) "Kind").run Tryz.prog w = .ok (262, h) w := by kernel_rfl
theorem mElem (h : Value) (w : World) : (Go.method (Tryz.prog.types.size + Made.depth) 329 (.agg #[h]) "Elem").run Tryz.prog w = .ok (277, .agg #[h]) w := by kernel_rfl
theorem mImplements (h : Value) (w : World) : (Go.method (Tryz.prog.types.size + Made.depth) 329 (.agg #[h]) "Implements").run Tryz.prog w = .ok (278, .agg #[h]) w := by kernel_rfl
theorem mAssignableTo (h : Value) (w : World) : (Go.method (Tryz.prog.types.size + Made.depth) 329 (.agg #[h]) "AssignableTo").run Tryz.prog w = .ok (275, .agg #[h]) w := by kernel_rfl
theorem mUnwrap (v : Value) (w : World) : (Go.method (Tryz.prog.types.size + Made.depth) 248 v "Unwrap").run Tryz.prog w = .ok (268, v) w := by kernel_rfl
theorem valueOfNP (t : Addr) (w : World) : (ReflectliteValue.unpack (.iface 213 (.pointer (some t)))).run Tryz.prog w = .ok (.agg #[hd 213, .pointer (some ⟨w.heap.size, 0, none⟩), .int .u64 150]) (w.alloc (.cells #[.pointer (some t)] 213)) := by kernel_rfl
theorem typeNP (a : Addr) (w : World) : ((ReflectliteValue.methodAny (ReflectliteValue.valueError "reflectlite.Value.Type" 0) (fun t _ _ _ => ReflectliteType.toType t)) #[.agg #[hd 213, .pointer (some a), .int .u64 150]]).run Tryz.prog w = .ok (rt 213) w := by kernel_rfl
theorem partsNP (a : Addr) (w : World) : (ReflectliteValue.parts (.agg #[hd 213, .pointer (some a), .int .u64 150])).run Tryz.prog w = .ok (some (213, a, 150)) w := by kernel_rfl
theorem valueOfFF (t : Addr) (w : World) : (ReflectliteValue.unpack (.iface 315 (.pointer (some t)))).run Tryz.prog w = .ok (.agg #[hd 315, .pointer (some ⟨w.heap.size, 0, none⟩), .int .u64 150]) (w.alloc (.cells #[.pointer (some t)] 315)) := by kernel_rfl
theorem typeFF (a : Addr) (w : World) : ((ReflectliteValue.methodAny (ReflectliteValue.valueError "reflectlite.Value.Type" 0) (fun t _ _ _ => ReflectliteType.toType t)) #[.agg #[hd 315, .pointer (some a), .int .u64 150]]).run Tryz.prog w = .ok (rt 315) w := by kernel_rfl
theorem partsFF (a : Addr) (w : World) : (ReflectliteValue.parts (.agg #[hd 315, .pointer (some a), .int .u64 150])).run Tryz.prog w = .ok (some (315, a, 150)) w := by kernel_rfl
theorem rlm (z : Sem Value) (f : TypeId → Addr → Nat → Nat → Sem Value) (v : Value) : ReflectliteValue.method z f #[v] = (do match ← ReflectliteValue.parts v with | none => z | some (t, a, fl) => f t a fl (fl % 32)) := rfl
theorem isNilNP (a p : Addr) (W : World) (ha : W.cell? a = some (.pointer (some p))) : ((ReflectliteValue.method (ReflectliteValue.valueError "reflectlite.Value.IsNil" 0) ReflectliteValue.isNil) #[.agg #[hd 213, .pointer (some a), .int .u64 150]]).run Tryz.prog W = .ok (.bool false) W := by
  rw [rlm]
  simp only [Sem.run_bind, partsNP, Result.andThen]
  simp [ReflectliteValue.isNil, loadVar, isAgg, underlying, Tryz.underlying213, ha, Result.andThen]
theorem isNilFF (a p : Addr) (W : World) (ha : W.cell? a = some (.pointer (some p))) : ((ReflectliteValue.method (ReflectliteValue.valueError "reflectlite.Value.IsNil" 0) ReflectliteValue.isNil) #[.agg #[hd 315, .pointer (some a), .int .u64 150]]).run Tryz.prog W = .ok (.bool false) W := by
  rw [rlm]
  simp only [Sem.run_bind, partsFF, Result.andThen]
  simp [ReflectliteValue.isNil, loadVar, isAgg, underlying, Tryz.underlying315, ha, Result.andThen]
theorem kindNP (w : World) : ((ReflectliteType.abiMethod fun t => do pure (.int .u8 (← Rtype.kind t))) #[hd 213]).run Tryz.prog w = .ok (.int .u8 22) w := by kernel_rfl
theorem kindFF (w : World) : ((ReflectliteType.abiMethod fun t => do pure (.int .u8 (← Rtype.kind t))) #[hd 315]).run Tryz.prog w = .ok (.int .u8 22) w := by kernel_rfl
theorem kindN (w : World) : ((ReflectliteType.abiMethod fun t => do pure (.int .u8 (← Rtype.kind t))) #[hd 91]).run Tryz.prog w = .ok (.int .u8 2) w := by kernel_rfl
theorem kindF (w : World) : ((ReflectliteType.abiMethod fun t => do pure (.int .u8 (← Rtype.kind t))) #[hd 248]).run Tryz.prog w = .ok (.int .u8 22) w := by kernel_rfl
theorem elemNP (w : World) : ((ReflectliteType.method ReflectliteType.elem) #[.agg #[hd 213]]).run Tryz.prog w = .ok (rt 91) w := by kernel_rfl
theorem elemOfNP (w : World) : (Rtype.elem? 213).run Tryz.prog w = .ok (some 91) w := by kernel_rfl
theorem elemFF (w : World) : ((ReflectliteType.method ReflectliteType.elem) #[.agg #[hd 315]]).run Tryz.prog w = .ok (rt 248) w := by kernel_rfl
theorem elemOfFF (w : World) : (Rtype.elem? 315).run Tryz.prog w = .ok (some 248) w := by kernel_rfl
theorem implementsN (w : World) : ((ReflectliteType.relation "Implements" ReflectliteType.implements_) #[.agg #[hd 91], errT]).run Tryz.prog w = .ok (.bool true) w := by kernel_rfl
theorem typeOfN (v : Value) (w : World) : (ReflectliteType.typeOf #[.iface 91 v]).run Tryz.prog w = .ok (rt 91) w := by kernel_rfl
theorem mkN (p : Addr) (w : World) : (ReflectliteValue.mk 91 p ReflectliteValue.flagAddr).run Tryz.prog w = .ok (.agg #[hd 91, .pointer (some p), .int .u64 386]) w := by kernel_rfl
theorem partsAN (a : Addr) (w : World) : (ReflectliteValue.parts (.agg #[hd 91, .pointer (some a), .int .u64 386])).run Tryz.prog w = .ok (some (91, a, 386)) w := by kernel_rfl
theorem partsBN (a : Addr) (w : World) : (ReflectliteValue.parts (.agg #[hd 91, .pointer (some a), .int .u64 130])).run Tryz.prog w = .ok (some (91, a, 130)) w := by kernel_rfl
theorem directN (w : World) : (Rtype.directlyAssignable 91 91).run Tryz.prog w = .ok true w := by kernel_rfl
theorem implementsF (w : World) : ((ReflectliteType.relation "Implements" ReflectliteType.implements_) #[.agg #[hd 248], errT]).run Tryz.prog w = .ok (.bool true) w := by kernel_rfl
theorem typeOfF (v : Value) (w : World) : (ReflectliteType.typeOf #[.iface 248 v]).run Tryz.prog w = .ok (rt 248) w := by kernel_rfl
theorem mkF (p : Addr) (w : World) : (ReflectliteValue.mk 248 p ReflectliteValue.flagAddr).run Tryz.prog w = .ok (.agg #[hd 248, .pointer (some p), .int .u64 406]) w := by kernel_rfl
theorem partsAF (a : Addr) (w : World) : (ReflectliteValue.parts (.agg #[hd 248, .pointer (some a), .int .u64 406])).run Tryz.prog w = .ok (some (248, a, 406)) w := by kernel_rfl
theorem partsBF (a : Addr) (w : World) : (ReflectliteValue.parts (.agg #[hd 248, .pointer (some a), .int .u64 150])).run Tryz.prog w = .ok (some (248, a, 150)) w := by kernel_rfl
theorem directF (w : World) : (Rtype.directlyAssignable 248 248).run Tryz.prog w = .ok true w := by kernel_rfl
theorem assignFN (w : World) : ((ReflectliteType.relation "AssignableTo" ReflectliteType.assignableTo) #[.agg #[hd 248], rt 91]).run Tryz.prog w = .ok (.bool false) w := by kernel_rfl
theorem assignNN (w : World) : ((ReflectliteType.relation "AssignableTo" ReflectliteType.assignableTo) #[.agg #[hd 91], rt 91]).run Tryz.prog w = .ok (.bool true) w := by kernel_rfl
theorem assignFF (w : World) : ((ReflectliteType.relation "AssignableTo" ReflectliteType.assignableTo) #[.agg #[hd 248], rt 248]).run Tryz.prog w = .ok (.bool true) w := by kernel_rfl
theorem assignNF (w : World) : ((ReflectliteType.relation "AssignableTo" ReflectliteType.assignableTo) #[.agg #[hd 91], rt 248]).run Tryz.prog w = .ok (.bool false) w := by kernel_rfl
theorem valueOfF (e : Addr) (w : World) : (ReflectliteValue.unpack (.iface 248 (.pointer (some e)))).run Tryz.prog w = .ok (.agg #[hd 248, .pointer (some ⟨w.heap.size, 0, none⟩), .int .u64 150]) (w.alloc (.cells #[.pointer (some e)] 248)) := by kernel_rfl
theorem valueOfN (c : Int) (w : World) : (ReflectliteValue.unpack (.iface 91 (.int .i64 c))).run Tryz.prog w = .ok (.agg #[hd 91, .pointer (some ⟨w.heap.size, 0, none⟩), .int .u64 130]) (w.alloc (.cells #[.int .i64 c] 91)) := by kernel_rfl
theorem elemVNP (a p : Addr) (W : World) (ha : W.cell? a = some (.pointer (some p))) : ((ReflectliteValue.method (ReflectliteValue.valueError "reflectlite.Value.Elem" 0) ReflectliteValue.elem) #[.agg #[hd 213, .pointer (some a), .int .u64 150]]).run Tryz.prog W = .ok (.agg #[hd 91, .pointer (some p), .int .u64 386]) W := by
  rw [rlm]
  simp only [Sem.run_bind, partsNP, Result.andThen]
  simp [ReflectliteValue.elem, loadVar, isAgg, underlying, Tryz.underlying213, ha, Result.andThen, elemOfNP, mkN]
theorem elemVFF (a p : Addr) (W : World) (ha : W.cell? a = some (.pointer (some p))) : ((ReflectliteValue.method (ReflectliteValue.valueError "reflectlite.Value.Elem" 0) ReflectliteValue.elem) #[.agg #[hd 315, .pointer (some a), .int .u64 150]]).run Tryz.prog W = .ok (.agg #[hd 248, .pointer (some p), .int .u64 406]) W := by
  rw [rlm]
  simp only [Sem.run_bind, partsFF, Result.andThen]
  simp [ReflectliteValue.elem, loadVar, isAgg, underlying, Tryz.underlying315, ha, Result.andThen, elemOfFF, mkF]
theorem rls (v x : Value) : ReflectliteValue.set #[v, x] = (do
    let (some (dst, a, fl), some (src, b, _)) := (← ReflectliteValue.parts v, ← ReflectliteValue.parts x)
      | unsupported (.noEntry "extern/(internal/reflectlite.Value).Set.zeroValue")
    if fl / ReflectliteValue.flagAddr % 2 == 0 then unsupported (.noEntry "extern/(internal/reflectlite.Value).Set.unaddressable")
    let val ← loadVar src b
    if ← Rtype.directlyAssignable dst src then storeVar dst a val
    else if ← Rtype.implements dst src then
      if (← Rtype.kind src) == 20 then
        match val with
        | .nilIface => unsupported (.noEntry "extern/reflectlite: a nil value of one interface type handed on as a value of another")
        | _ => storeVar dst a val
      else storeVar dst a (.iface src val)
    else panicString ("reflectlite.Set: value of type " ++ (← Rtype.spelt src) ++ " is not assignable to type " ++ (← Rtype.spelt dst))
    pure (.tuple #[])) := rfl
theorem sizeN (w : World) : (sizeOf 91).run Tryz.prog w = .ok 1 w := by kernel_rfl
theorem setN (ta b : Addr) (c : Int) (old : Value) (W : World) (hb : W.cell? b = some (.int .i64 c)) (ht : W.cell? ta = some old) (hf : W.frozen? ta = false) :
    (ReflectliteValue.set #[.agg #[hd 91, .pointer (some ta), .int .u64 386], .agg #[hd 91, .pointer (some b), .int .u64 130]]).run Tryz.prog W = .ok (.tuple #[]) (W.setCell ta (.int .i64 c)) := by
  rw [rls]
  simp only [Sem.run_bind, partsAN, partsBN, Result.andThen]
  simp [ReflectliteValue.flagAddr, loadVar, isAgg, underlying, Tryz.underlying91, hb, Result.andThen, directN, storeVar, Value.cells, storeCells, Addr.add]
  rw [run_store Tryz.prog W ta _ _ (by rfl)]
  simp [ht, hf]
theorem sizeF (w : World) : (sizeOf 248).run Tryz.prog w = .ok 1 w := by kernel_rfl
theorem setF (ta b : Addr) (c : Option Addr) (old : Value) (W : World) (hb : W.cell? b = some (.pointer c)) (ht : W.cell? ta = some old) (hf : W.frozen? ta = false) :
    (ReflectliteValue.set #[.agg #[hd 248, .pointer (some ta), .int .u64 406], .agg #[hd 248, .pointer (some b), .int .u64 150]]).run Tryz.prog W = .ok (.tuple #[]) (W.setCell ta (.pointer c)) := by
  rw [rls]
  simp only [Sem.run_bind, partsAF, partsBF, Result.andThen]
  simp [ReflectliteValue.flagAddr, loadVar, isAgg, underlying, Tryz.underlying248, hb, Result.andThen, directF, storeVar, Value.cells, storeCells, Addr.add]
  rw [run_store Tryz.prog W ta _ _ (by rfl)]
  simp [ht, hf]
theorem assertFIA (v : Value) (w : World) : (Instr.typeAssert (.iface 248 v) 31 334 true).run Tryz.prog w = .ok (.tuple #[.nilIface, .bool false]) w := run_typeAssert_lacksB Tryz.underlying334 (by kernel_rfl) (by kernel_rfl) v 31 w
theorem assertFIU (v : Value) (w : World) : (Instr.typeAssert (.iface 248 v) 31 337 true).run Tryz.prog w = .ok (.tuple #[.iface 248 v, .bool true]) w := run_typeAssert_hasB Tryz.underlying337 (by kernel_rfl) v 31 w
theorem assertNIA (v : Value) (w : World) : (Instr.typeAssert (.iface 91 v) 31 334 true).run Tryz.prog w = .ok (.tuple #[.nilIface, .bool false]) w := run_typeAssert_lacksB Tryz.underlying334 (by kernel_rfl) (by kernel_rfl) v 31 w
theorem assertNIU (v : Value) (w : World) : (Instr.typeAssert (.iface 91 v) 31 337 true).run Tryz.prog w = .ok (.tuple #[.nilIface, .bool false]) w := run_typeAssert_lacksB Tryz.underlying337 (by kernel_rfl) (by kernel_rfl) v 31 w
theorem assertNIL (v : Value) (w : World) : (Instr.typeAssert (.iface 91 v) 31 338 true).run Tryz.prog w = .ok (.tuple #[.nilIface, .bool false]) w := run_typeAssert_lacksB Tryz.underlying338 (by kernel_rfl) (by kernel_rfl) v 31 w
end Go.Proofs.YtleajkobmhhacaaGreatDoor
/- Contracts of functions of the given program, and plain laws on what they compute: parts of the proofs of laws. -/

namespace Go.Proofs.YtleajkobmhhacaaGreatDoor
open Go Go.GL Go.Extern

/-- the cells of a fault -/
def faultCells (op : ByteArray) (at_ c : Int) : List Value := [.string op, .int .i64 at_, .iface 91 (.int .i64 c)]
/-- the type of errors lies where errors.As looks for it -/
def ErrT : Assn := cellAt 0 0 errT
theorem up_ErrT : Up ErrT := up_cellAt _ _ _
theorem cell_of_blk0 {L : List Assn} {w : World} {b : Nat} {c : List Value} {T : TypeId} {v : Value} (s : Sat L w) (m : blk b c T ∈ L) (h : c[0]? = some v) : w.cell? ⟨b, 0, none⟩ = some v :=
  cell_of_cellAt ((Ent.blk m h) _ s)
theorem cell_of_cells0 {L : List Assn} {w : World} {b off i : Nat} {l : List Value} {v : Value} (s : Sat L w) (m : Ent L (cellsAt b off l)) (h : l[i]? = some v) : w.cell? ⟨b, off + i, none⟩ = some v :=
  cell_of_cellAt (cellsAt_one (m _ s) h)
set_option maxRecDepth 10000 in
theorem as_nil (v : Value) : RO G 112 [.nilIface, v] (fun _ => True) (.bool false) := by
  refine RO.enter Tryz.func112 rfl (by decide) rfl Tryz.ntmps112 rfl (fun A _ hA => ?_) (fun _ _ _ h => h)
  repeat (first | refine GO ?_ | refine NW fun _ => ?_)
  exact ret1 rfl ⟨rfl, MM⟩
set_option maxRecDepth 10000 in
theorem unwrap_ro (b : Nat) (op : ByteArray) (at_ c : Int) : RO G 268 [.pointer (some ⟨b, 0, none⟩)] (cellsAt b 0 (faultCells op at_ c)) (.iface 91 (.int .i64 c)) := by
  refine RO.enter Tryz.func268 rfl (by decide) rfl Tryz.ntmps268 rfl (fun A hu hA => ?_) (up_cellsAt _ _ _)
  repeat (first | refine GO ?_ | refine NW fun _ => ?_)
  refine WL.step rfl (OP.load1 (v := .iface 91 (.int .i64 c)) rfl rfl rfl rfl (Ent.mem (A := A) MM hu (fun h x => cellsAt_one (i := 2) (hA h x) rfl)) rfl rfl ?_)
  repeat (first | refine GO ?_ | refine NW fun _ => ?_)
  exact ret1 rfl ⟨rfl, MM⟩
set_option maxHeartbeats 4000000 in
set_option maxRecDepth 10000 in
theorem asF_hit (b p q : Nat) (old : Value) :
    Triple G 178 [.iface 248 (.pointer (some ⟨b, 0, none⟩)), .iface 315 (.pointer (some ⟨p, 0, none⟩)), .agg #[hd 315, .pointer (some ⟨q, 0, none⟩), .int .u64 150], rt 248] [blk p [old] 248, blk q [.pointer (some ⟨p, 0, none⟩)] 315] (fun v M => v = .bool true ∧ M = [blk p [.pointer (some ⟨b, 0, none⟩)] 248]) := by
  refine Triple.enter Tryz.func178 rfl (by decide) rfl Tryz.ntmps178 rfl (fun X => ?_)
  repeat (first | refine GO ?_ | refine NW fun _ => ?_)
  rename_i bx
  refine WC.loop (σ := Unit) (fun _ => True) (fun _ => [(0, .val (.iface 248 (.pointer (some ⟨b, 0, none⟩)))), (1, .val (.iface 315 (.pointer (some ⟨p, 0, none⟩)))), (3, .val (rt 248)), (6, .val (.pointer (some ⟨bx, 0, none⟩))), (8, .val (.bool false))])
    (fun _ => [blk bx [hd 315, .pointer (some ⟨q, 0, none⟩), .int .u64 150] 281, blk p [old] 248, blk q [.pointer (some ⟨p, 0, none⟩)] 315, X]) (fun _ => 0) () trivial ⟨rfl, rfl, rfl, rfl, rfl, trivial⟩ II ?_
  rintro _ _
  repeat (first | refine GD ?_ | refine NW fun _ => ?_)
  refine WL.step rfl (OP.extP (.call xTypeOf rfl rfl) (fun w _ => typeOfF _ w) rfl rfl ?_)
  repeat (first | refine GD ?_ | refine NW fun _ => ?_)
  refine WL.step rfl (OP.extP (.inv xAssignableTo rfl rfl rfl (fun w => mAssignableTo _ w)) (fun w _ => assignFF w) rfl rfl ?_)
  repeat (first | refine GD ?_ | refine NW fun _ => ?_)
  refine WL.step rfl (OP.extP (.call xElemV rfl rfl) (fun w s => elemVFF _ ⟨p, 0, none⟩ w (cell_of_blk0 (b := q) s MM rfl)) rfl rfl ?_)
  repeat (first | refine GD ?_ | refine NW fun _ => ?_)
  refine WL.step rfl (OP.extNew (mk := (fun n => .agg #[hd 248, .pointer (some ⟨n, 0, none⟩), .int .u64 150])) (.call xValueOf rfl rfl) (fun w _ => valueOfF _ w) rfl rfl (fun q2 => ?_))
  repeat (first | refine GD ?_ | refine NW fun _ => ?_)
  refine WL.step rfl (OP.extSet (.call xSet rfl rfl) (fun w s => setF ⟨p, 0, none⟩ ⟨q2, 0, none⟩ (some ⟨b, 0, none⟩) old w (cell_of_blk0 (b := q2) s MM rfl) (cell_of_blk0 (b := p) s MM rfl) (Sat.notFrozen (b := p) (c := [old]) (T := 248) s MM (Nat.zero_lt_succ _))) (by repeat (first | exact Upd.here _ _ _ _ _ | apply Upd.there)) rfl rfl ?_)
  repeat (first | refine GD ?_ | refine NW fun _ => ?_)
  exact ret1 rfl ⟨_, ⟨rfl, rfl⟩, II⟩
set_option maxHeartbeats 4000000 in
set_option maxRecDepth 10000 in
theorem asF_miss (p q : Nat) (c : Int) :
    Triple G 178 [.iface 91 (.int .i64 c), .iface 315 (.pointer (some ⟨p, 0, none⟩)), .agg #[hd 315, .pointer (some ⟨q, 0, none⟩), .int .u64 150], rt 248] [] (fun v M => v = .bool false ∧ M = []) := by
  refine Triple.enter Tryz.func178 rfl (by decide) rfl Tryz.ntmps178 rfl (fun X => ?_)
  repeat (first | refine GO ?_ | refine NW fun _ => ?_)
  rename_i bx
  refine WC.loop (σ := Unit) (fun _ => True) (fun _ => [(0, .val (.iface 91 (.int .i64 c))), (1, .val (.iface 315 (.pointer (some ⟨p, 0, none⟩)))), (3, .val (rt 248)), (6, .val (.pointer (some ⟨bx, 0, none⟩))), (8, .val (.bool false))])
    (fun _ => [X]) (fun _ => 0) () trivial ⟨rfl, rfl, rfl, rfl, rfl, trivial⟩ II ?_
  rintro _ _
  repeat (first | refine GD ?_ | refine NW fun _ => ?_)
  refine WL.step rfl (OP.extP (.call xTypeOf rfl rfl) (fun w _ => typeOfN _ w) rfl rfl ?_)
  repeat (first | refine GD ?_ | refine NW fun _ => ?_)
  refine WL.step rfl (OP.extP (.inv xAssignableTo rfl rfl rfl (fun w => mAssignableTo _ w)) (fun w _ => assignNF w) rfl rfl ?_)
  repeat (first | refine GD ?_ | refine NW fun _ => ?_)
  refine WL.step rfl (OP.assert rfl rfl (fun w => assertNIA _ w) rfl rfl ?_)
  repeat (first | refine GD ?_ | refine NW fun _ => ?_)
  refine WL.step rfl (OP.assert rfl rfl (fun w => assertNIU _ w) rfl rfl ?_)
  repeat (first | refine GD ?_ | refine NW fun _ => ?_)
  refine WL.step rfl (OP.assert rfl rfl (fun w => assertNIL _ w) rfl rfl ?_)
  repeat (first | refine GD ?_ | refine NW fun _ => ?_)
  exact ret1 rfl ⟨_, ⟨rfl, rfl⟩, II⟩
set_option maxHeartbeats 4000000 in
set_option maxRecDepth 10000 in
theorem asN_fault (b p q : Nat) (op : ByteArray) (at_ c : Int) (old : Value) (A : Assn) (hu : Up A) (hA : ∀ h, A h → cellsAt b 0 (faultCells op at_ c) h) :
    Triple G 178 [.iface 248 (.pointer (some ⟨b, 0, none⟩)), .iface 213 (.pointer (some ⟨p, 0, none⟩)), .agg #[hd 213, .pointer (some ⟨q, 0, none⟩), .int .u64 150], rt 91] [blk p [old] 91, blk q [.pointer (some ⟨p, 0, none⟩)] 213, A] (fun v M => v = .bool true ∧ M = [blk p [.int .i64 c] 91, A]) := by
  refine Triple.enter Tryz.func178 rfl (by decide) rfl Tryz.ntmps178 rfl (fun X => ?_)
  repeat (first | refine GO ?_ | refine NW fun _ => ?_)
  rename_i bx
  refine WC.loop (σ := Bool) (fun _ => True) (fun s => match s with | true => [(0, .val (.iface 248 (.pointer (some ⟨b, 0, none⟩)))), (1, .val (.iface 213 (.pointer (some ⟨p, 0, none⟩)))), (3, .val (rt 91)), (6, .val (.pointer (some ⟨bx, 0, none⟩))), (8, .val (.bool false))] | false => [(0, .val (.iface 91 (.int .i64 c))), (1, .val (.iface 213 (.pointer (some ⟨p, 0, none⟩)))), (3, .val (rt 91)), (6, .val (.pointer (some ⟨bx, 0, none⟩))), (8, .val (.bool false))])
    (fun _ => [blk bx [hd 213, .pointer (some ⟨q, 0, none⟩), .int .u64 150] 281, blk p [old] 91, blk q [.pointer (some ⟨p, 0, none⟩)] 213, A, X]) (fun s => match s with | true => 1 | false => 0) true trivial ⟨rfl, rfl, rfl, rfl, rfl, trivial⟩ II ?_
  rintro s _
  cases s
  · repeat (first | refine GD ?_ | refine NW fun _ => ?_)
    refine WL.step rfl (OP.extP (.call xTypeOf rfl rfl) (fun w _ => typeOfN _ w) rfl rfl ?_)
    repeat (first | refine GD ?_ | refine NW fun _ => ?_)
    refine WL.step rfl (OP.extP (.inv xAssignableTo rfl rfl rfl (fun w => mAssignableTo _ w)) (fun w _ => assignNN w) rfl rfl ?_)
    repeat (first | refine GD ?_ | refine NW fun _ => ?_)
    refine WL.step rfl (OP.extP (.call xElemV rfl rfl) (fun w s => elemVNP _ ⟨p, 0, none⟩ w (cell_of_blk0 (b := q) s MM rfl)) rfl rfl ?_)
    repeat (first | refine GD ?_ | refine NW fun _ => ?_)
    refine WL.step rfl (OP.extNew (mk := (fun n => .agg #[hd 91, .pointer (some ⟨n, 0, none⟩), .int .u64 130])) (.call xValueOf rfl rfl) (fun w _ => valueOfN _ w) rfl rfl (fun q2 => ?_))
    repeat (first | refine GD ?_ | refine NW fun _ => ?_)
    refine WL.step rfl (OP.extSet (.call xSet rfl rfl) (fun w s => setN ⟨p, 0, none⟩ ⟨q2, 0, none⟩ c old w (cell_of_blk0 (b := q2) s MM rfl) (cell_of_blk0 (b := p) s MM rfl) (Sat.notFrozen (b := p) (c := [old]) (T := 91) s MM (Nat.zero_lt_succ _))) (by repeat (first | exact Upd.here _ _ _ _ _ | apply Upd.there)) rfl rfl ?_)
    repeat (first | refine GD ?_ | refine NW fun _ => ?_)
    exact ret1 rfl ⟨_, ⟨rfl, rfl⟩, II⟩
  · repeat (first | refine GD ?_ | refine NW fun _ => ?_)
    refine WL.step rfl (OP.extP (.call xTypeOf rfl rfl) (fun w _ => typeOfF _ w) rfl rfl ?_)
    repeat (first | refine GD ?_ | refine NW fun _ => ?_)
    refine WL.step rfl (OP.extP (.inv xAssignableTo rfl rfl rfl (fun w => mAssignableTo _ w)) (fun w _ => assignFN w) rfl rfl ?_)
    repeat (first | refine GD ?_ | refine NW fun _ => ?_)
    refine WL.step rfl (OP.assert rfl rfl (fun w => assertFIA _ w) rfl rfl ?_)
    repeat (first | refine GD ?_ | refine NW fun _ => ?_)
    refine WL.step rfl (OP.assert rfl rfl (fun w => assertFIU _ w) rfl rfl ?_)
    repeat (first | refine GD ?_ | refine NW fun _ => ?_)
    refine WL.step rfl (OP.invRO rfl rfl (fun w => mUnwrap _ w) (unwrap_ro b op at_ c) (Ent.mem (A := A) MM hu hA) rfl rfl ?_)
    repeat (first | refine GD ?_ | refine NW fun _ => ?_)
    exact ⟨false, trivial, by decide, ⟨rfl, rfl, rfl, rfl, rfl, trivial⟩, II⟩
set_option maxHeartbeats 4000000 in
set_option maxRecDepth 10000 in
theorem as_faults (b p : Nat) (old : Value) (A : Assn) (hu : Up A) (hA : ∀ h, A h → ErrT h) :
    Triple G 112 [.iface 248 (.pointer (some ⟨b, 0, none⟩)), .iface 315 (.pointer (some ⟨p, 0, none⟩))] ([blk p [old] 248, A]) (fun v M => v = .bool true ∧ M = [blk p [.pointer (some ⟨b, 0, none⟩)] 248, A]) := by
  refine Triple.enter Tryz.func112 rfl (by decide) rfl Tryz.ntmps112 rfl (fun F => ?_)
  repeat (first | refine GO ?_ | refine NW fun _ => ?_)
  refine WL.step rfl (OP.extNew (mk := fun n => .agg #[hd 315, .pointer (some ⟨n, 0, none⟩), .int .u64 150]) (.call xValueOf rfl rfl) (fun w _ => valueOfFF _ w) rfl rfl (fun q => ?_))
  repeat (first | refine GO ?_ | refine NW fun _ => ?_)
  refine WL.step rfl (OP.extP (.call xType rfl rfl) (fun w _ => typeFF _ w) rfl rfl ?_)
  repeat (first | refine GO ?_ | refine NW fun _ => ?_)
  refine WL.step rfl (OP.extP (.inv xKind rfl rfl rfl (fun w => mKind _ w)) (fun w _ => kindFF w) rfl rfl ?_)
  repeat (first | refine GO ?_ | refine NW fun _ => ?_)
  refine WL.guardT rfl rfl rfl rfl (OP.extP (.call xIsNil rfl rfl) (fun w s => isNilFF _ ⟨p, 0, none⟩ w (cell_of_blk0 (b := q) s MM rfl)) rfl rfl ?_)
  repeat (first | refine GO ?_ | refine NW fun _ => ?_)
  refine WL.step rfl (OP.extP (.inv xElem rfl rfl rfl (fun w => mElem _ w)) (fun w _ => elemFF w) rfl rfl ?_)
  repeat (first | refine GO ?_ | refine NW fun _ => ?_)
  refine WL.step rfl (OP.extP (.inv xKind rfl rfl rfl (fun w => mKind _ w)) (fun w _ => kindF w) rfl rfl ?_)
  repeat (first | refine GO ?_ | refine NW fun _ => ?_)
  refine WL.guardT rfl rfl rfl rfl (OP.load1 (v := errT) rfl rfl rfl rfl (Ent.mem (A := A) MM hu hA) rfl rfl ?_)
  repeat (first | refine GO ?_ | refine NW fun _ => ?_)
  refine WL.guardT rfl rfl rfl rfl (OP.extP (.inv xImplements rfl rfl rfl (fun w => mImplements _ w)) (fun w _ => implementsF w) rfl rfl ?_)
  repeat (first | refine GO ?_ | refine NW fun _ => ?_)
  refine WL.step rfl (OP.call (pre := [blk p [old] 248, blk q [.pointer (some ⟨p, 0, none⟩)] 315]) rfl rfl (asF_hit b p q old) PS rfl rfl ?_)
  rintro _ _ ⟨rfl, rfl⟩
  repeat (first | refine GO ?_ | refine NW fun _ => ?_)
  exact ret1 rfl ⟨_, ⟨rfl, rfl⟩, II⟩
set_option maxHeartbeats 4000000 in
set_option maxRecDepth 10000 in
theorem as_faultsN (p : Nat) (c : Int) (old : Value) (A : Assn) (hu : Up A) (hA : ∀ h, A h → ErrT h) :
    Triple G 112 [.iface 91 (.int .i64 c), .iface 315 (.pointer (some ⟨p, 0, none⟩))] ([blk p [old] 248, A]) (fun v M => v = .bool false ∧ M = [blk p [old] 248, A]) := by
  refine Triple.enter Tryz.func112 rfl (by decide) rfl Tryz.ntmps112 rfl (fun F => ?_)
  repeat (first | refine GO ?_ | refine NW fun _ => ?_)
  refine WL.step rfl (OP.extNew (mk := fun n => .agg #[hd 315, .pointer (some ⟨n, 0, none⟩), .int .u64 150]) (.call xValueOf rfl rfl) (fun w _ => valueOfFF _ w) rfl rfl (fun q => ?_))
  repeat (first | refine GO ?_ | refine NW fun _ => ?_)
  refine WL.step rfl (OP.extP (.call xType rfl rfl) (fun w _ => typeFF _ w) rfl rfl ?_)
  repeat (first | refine GO ?_ | refine NW fun _ => ?_)
  refine WL.step rfl (OP.extP (.inv xKind rfl rfl rfl (fun w => mKind _ w)) (fun w _ => kindFF w) rfl rfl ?_)
  repeat (first | refine GO ?_ | refine NW fun _ => ?_)
  refine WL.guardT rfl rfl rfl rfl (OP.extP (.call xIsNil rfl rfl) (fun w s => isNilFF _ ⟨p, 0, none⟩ w (cell_of_blk0 (b := q) s MM rfl)) rfl rfl ?_)
  repeat (first | refine GO ?_ | refine NW fun _ => ?_)
  refine WL.step rfl (OP.extP (.inv xElem rfl rfl rfl (fun w => mElem _ w)) (fun w _ => elemFF w) rfl rfl ?_)
  repeat (first | refine GO ?_ | refine NW fun _ => ?_)
  refine WL.step rfl (OP.extP (.inv xKind rfl rfl rfl (fun w => mKind _ w)) (fun w _ => kindF w) rfl rfl ?_)
  repeat (first | refine GO ?_ | refine NW fun _ => ?_)
  refine WL.guardT rfl rfl rfl rfl (OP.load1 (v := errT) rfl rfl rfl rfl (Ent.mem (A := A) MM hu hA) rfl rfl ?_)
  repeat (first | refine GO ?_ | refine NW fun _ => ?_)
  refine WL.guardT rfl rfl rfl rfl (OP.extP (.inv xImplements rfl rfl rfl (fun w => mImplements _ w)) (fun w _ => implementsF w) rfl rfl ?_)
  repeat (first | refine GO ?_ | refine NW fun _ => ?_)
  refine WL.step rfl (OP.call (pre := []) (F := _) rfl rfl (asF_miss p q c) (Imp.refl _) rfl rfl ?_)
  rintro _ _ ⟨rfl, rfl⟩
  repeat (first | refine GO ?_ | refine NW fun _ => ?_)
  exact ret1 rfl ⟨_, ⟨rfl, rfl⟩, II⟩
set_option maxHeartbeats 4000000 in
set_option maxRecDepth 10000 in
theorem as_code (b p : Nat) (op : ByteArray) (at_ c : Int) (old : Value) (A : Assn) (hu : Up A) (hA : ∀ h, A h → ErrT h) (hA2 : ∀ h, A h → cellsAt b 0 (faultCells op at_ c) h) :
    Triple G 112 [.iface 248 (.pointer (some ⟨b, 0, none⟩)), .iface 213 (.pointer (some ⟨p, 0, none⟩))] ([blk p [old] 91, A]) (fun v M => v = .bool true ∧ M = [blk p [.int .i64 c] 91, A]) := by
  refine Triple.enter Tryz.func112 rfl (by decide) rfl Tryz.ntmps112 rfl (fun F => ?_)
  repeat (first | refine GO ?_ | refine NW fun _ => ?_)
  refine WL.step rfl (OP.extNew (mk := fun n => .agg #[hd 213, .pointer (some ⟨n, 0, none⟩), .int .u64 150]) (.call xValueOf rfl rfl) (fun w _ => valueOfNP _ w) rfl rfl (fun q => ?_))
  repeat (first | refine GO ?_ | refine NW fun _ => ?_)
  refine WL.step rfl (OP.extP (.call xType rfl rfl) (fun w _ => typeNP _ w) rfl rfl ?_)
  repeat (first | refine GO ?_ | refine NW fun _ => ?_)
  refine WL.step rfl (OP.extP (.inv xKind rfl rfl rfl (fun w => mKind _ w)) (fun w _ => kindNP w) rfl rfl ?_)
  repeat (first | refine GO ?_ | refine NW fun _ => ?_)
  refine WL.guardT rfl rfl rfl rfl (OP.extP (.call xIsNil rfl rfl) (fun w s => isNilNP _ ⟨p, 0, none⟩ w (cell_of_blk0 (b := q) s MM rfl)) rfl rfl ?_)
  repeat (first | refine GO ?_ | refine NW fun _ => ?_)
  refine WL.step rfl (OP.extP (.inv xElem rfl rfl rfl (fun w => mElem _ w)) (fun w _ => elemNP w) rfl rfl ?_)
  repeat (first | refine GO ?_ | refine NW fun _ => ?_)
  refine WL.step rfl (OP.extP (.inv xKind rfl rfl rfl (fun w => mKind _ w)) (fun w _ => kindN w) rfl rfl ?_)
  repeat (first | refine GO ?_ | refine NW fun _ => ?_)
  refine WL.guardT rfl rfl rfl rfl (OP.load1 (v := errT) rfl rfl rfl rfl (Ent.mem (A := A) MM hu hA) rfl rfl ?_)
  repeat (first | refine GO ?_ | refine NW fun _ => ?_)
  refine WL.guardT rfl rfl rfl rfl (OP.extP (.inv xImplements rfl rfl rfl (fun w => mImplements _ w)) (fun w _ => implementsN w) rfl rfl ?_)
  repeat (first | refine GO ?_ | refine NW fun _ => ?_)
  refine WL.step rfl (OP.call (pre := [blk p [old] 91, blk q [.pointer (some ⟨p, 0, none⟩)] 213, A]) rfl rfl (asN_fault b p q op at_ c old A hu hA2) PS rfl rfl ?_)
  rintro _ _ ⟨rfl, rfl⟩
  repeat (first | refine GO ?_ | refine NW fun _ => ?_)
  exact ret1 rfl ⟨_, ⟨rfl, rfl⟩, II⟩
end Go.Proofs.YtleajkobmhhacaaGreatDoor
/- Contracts of functions of the given program, and plain laws on what they compute: parts of the proofs of laws. -/

namespace Go.Proofs.YtleajkobmhhacaaGreatDoor
open Go Go.GL

def FaultR (b : Nat) (op : ByteArray) (at_ c : Int) : Assn := fun h => ErrT h ∧ cellsAt b 0 (faultCells op at_ c) h
theorem up_FaultR (b : Nat) (op : ByteArray) (at_ c : Int) : Up (FaultR b op at_ c) := up_and up_ErrT (up_cellsAt _ _ _)
set_option maxRecDepth 10000 in
theorem code_nil : RO G 44 [.nilIface] (fun _ => True) (.int .i64 0) := by
  refine RO.enter Tryz.func44 rfl (by decide) rfl Tryz.ntmps44 rfl (fun A hu hA => ?_) (fun _ _ _ h => h)
  repeat (first | refine GO ?_ | refine NW fun _ => ?_)
  refine WL.step rfl (OP.callRO rfl rfl (as_nil _) (fun _ _ => trivial) rfl rfl ?_)
  repeat (first | refine GO ?_ | refine NW fun _ => ?_)
  exact ret1 rfl ⟨rfl, MM⟩
set_option maxRecDepth 10000 in
theorem code_fault (b : Nat) (op : ByteArray) (at_ c : Int) : RO G 44 [.iface 248 (.pointer (some ⟨b, 0, none⟩))] (FaultR b op at_ c) (.int .i64 c) := by
  refine RO.enter Tryz.func44 rfl (by decide) rfl Tryz.ntmps44 rfl (fun A hu hA => ?_) (up_FaultR _ _ _ _)
  repeat (first | refine GO ?_ | refine NW fun _ => ?_)
  rename_i p
  refine WL.step rfl (OP.call (pre := [blk p [.int .i64 0] 91, A]) rfl rfl (as_code b p op at_ c (.int .i64 0) A hu (fun h x => (hA h x).1) (fun h x => (hA h x).2)) PS rfl rfl ?_)
  rintro _ _ ⟨rfl, rfl⟩
  repeat (first | refine GO ?_ | refine NW fun _ => ?_)
  exact ret1 rfl ⟨rfl, MM⟩
def Ptrs (l : List Value) (v : Value) (E : List Assn) : Prop := ∃ a cap, v = .slice a l.length cap ∧ E = [ownS a l.length cap 248 1 l]
set_option maxRecDepth 10000 in
theorem faults_nil : RT G 151 [.nilIface] (fun _ => True) (fun v E => v = .slice none 0 0 ∧ E = []) := by
  refine RT.enter Tryz.func151 rfl (by decide) rfl Tryz.ntmps151 rfl (fun A hu hA => ?_)
  repeat (first | refine GO ?_ | refine NW fun _ => ?_)
  rename_i p
  refine WC.loop (σ := Unit) (fun _ => True) (fun _ => [(0, .val .nilIface), (3, .val (.slice none 0 0)), (4, .val (.pointer (some ⟨p, 0, none⟩)))]) (fun _ => [A]) (fun _ => 0) () trivial ⟨rfl, rfl, rfl, trivial⟩ II ?_
  rintro _ _
  repeat (first | refine GO ?_ | refine NW fun _ => ?_)
  refine WL.step rfl (OP.callRO rfl rfl (as_nil _) (fun _ _ => trivial) rfl rfl ?_)
  repeat (first | refine GO ?_ | refine NW fun _ => ?_)
  exact ret1 rfl ⟨[], ⟨rfl, rfl⟩, II⟩
set_option maxHeartbeats 1000000 in
set_option maxRecDepth 10000 in
theorem faults_one (b : Nat) (op : ByteArray) (at_ c : Int) : RT G 151 [.iface 248 (.pointer (some ⟨b, 0, none⟩))] (FaultR b op at_ c) (Ptrs [.pointer (some ⟨b, 0, none⟩)]) := by
  refine RT.enter Tryz.func151 rfl (by decide) rfl Tryz.ntmps151 rfl (fun A hu hA => ?_)
  repeat (first | refine GO ?_ | refine NW fun _ => ?_)
  rename_i p
  refine WC.imp (Imp.nilS 248 1) ?_
  refine WC.loop (σ := Bool × Option Addr × Nat) (fun s => s.1 = true → s.2.1 = none ∧ s.2.2 = 0) (fun s => match s.1 with
      | true => [(0, .val (.iface 248 (.pointer (some ⟨b, 0, none⟩)))), (3, .val (.slice none 0 0)), (4, .val (.pointer (some ⟨p, 0, none⟩)))]
      | false => [(0, .val (.iface 91 (.int .i64 c))), (3, .val (.slice s.2.1 1 s.2.2)), (4, .val (.pointer (some ⟨p, 0, none⟩)))])
    (fun s => match s.1 with
      | true => [blk p [.pointer none] 248, ownS none 0 0 248 1 [], A]
      | false => [blk p [.pointer (some ⟨b, 0, none⟩)] 248, ownS s.2.1 1 s.2.2 248 1 [.pointer (some ⟨b, 0, none⟩)], A])
    (fun s => match s.1 with | true => 1 | false => 0) (true, none, 0) (fun _ => ⟨rfl, rfl⟩) ⟨rfl, rfl, rfl, trivial⟩ II ?_
  rintro ⟨s, a, cap⟩ hs
  cases s
  · dsimp only at hs ⊢
    repeat (first | refine GO ?_ | refine NW fun _ => ?_)
    refine WL.step rfl (OP.call (pre := [blk p [.pointer (some ⟨b, 0, none⟩)] 248, A]) rfl rfl (as_faultsN p c _ A hu (fun h x => (hA h x).1)) PS rfl rfl ?_)
    rintro _ _ ⟨rfl, rfl⟩
    repeat (first | refine GO ?_ | refine NW fun _ => ?_)
    exact ret1 rfl ⟨[_], ⟨a, cap, rfl, rfl⟩, II⟩
  · dsimp only at hs ⊢
    repeat (first | refine GO ?_ | refine NW fun _ => ?_)
    refine WL.step rfl (OP.call (pre := [blk p [.pointer none] 248, A]) rfl rfl (as_faults b p _ A hu (fun h x => (hA h x).1)) PS rfl rfl ?_)
    rintro _ _ ⟨rfl, rfl⟩
    repeat (first | refine GO ?_ | refine NW fun _ => ?_)
    refine WL.step rfl (OP.append rfl rfl rfl rfl rfl rfl rfl rfl rfl P1 (Ent.own MM) rfl (by decide) (by decide) rfl rfl (fun a2 cap2 => ?_))
    repeat (first | refine GO ?_ | refine NW fun _ => ?_)
    refine WL.step rfl (OP.load1 (v := .iface 91 (.int .i64 c)) rfl rfl rfl rfl (Ent.mem (A := A) MM hu (fun h x => cellsAt_one (i := 2) (hA h x).2 rfl)) rfl rfl ?_)
    repeat (first | refine GO ?_ | refine NW fun _ => ?_)
    exact ⟨(false, a2, cap2), (fun h => nomatch h), Nat.zero_lt_one, ⟨rfl, rfl, rfl, trivial⟩, II⟩
set_option maxHeartbeats 1000000 in
set_option maxRecDepth 10000 in
theorem first_nil (op : ByteArray) : RO G 80 [.nilIface, .string op] (fun _ => True) (.tuple #[.int .i64 0, .bool false]) := by
  refine RO.enter Tryz.func80 rfl (by decide) rfl Tryz.ntmps80 rfl (fun A hu hA => ?_) (fun _ _ _ h => h)
  repeat (first | refine GO ?_ | refine NW fun _ => ?_)
  refine WL.step rfl (OP.callRT rfl rfl faults_nil (fun _ _ => trivial) rfl rfl ?_)
  rintro v E ⟨rfl, rfl⟩
  repeat (first | refine GO ?_ | refine NW fun _ => ?_)
  refine WC.loop (σ := Unit) (fun _ => True) (fun _ => [(10, .val (.int .i64 0)), (11, .val (.int .i64 0))]) (fun _ => [A]) (fun _ => 0) () trivial ⟨rfl, rfl, trivial⟩ II ?_
  rintro _ _
  repeat (first | refine GD ?_ | refine NW fun _ => ?_)
  exact ret2 rfl rfl ⟨rfl, MM⟩
set_option maxHeartbeats 1000000 in
set_option maxRecDepth 10000 in
theorem first_fault (b : Nat) (op op' : ByteArray) (at_ c : Int) : RO G 80 [.iface 248 (.pointer (some ⟨b, 0, none⟩)), .string op'] (FaultR b op at_ c) (if op = op' then .tuple #[.int .i64 at_, .bool true] else .tuple #[.int .i64 0, .bool false]) := by
  refine RO.enter Tryz.func80 rfl (by decide) rfl Tryz.ntmps80 rfl (fun A hu hA => ?_) (up_FaultR _ _ _ _)
  repeat (first | refine GO ?_ | refine NW fun _ => ?_)
  refine WL.step rfl (OP.callRT rfl rfl (faults_one b op at_ c) (Ent.mem MM hu hA) rfl rfl ?_)
  rintro v E ⟨a, cap, rfl, rfl⟩
  refine WL.fact (Ent.some (Ent.own (a := a) (n := 1) (cap := cap) (T := 248) (size := 1) (cs := [.pointer (some ⟨b, 0, none⟩)]) MM) (by decide)) ?_
  rintro ⟨b2, off2, rfl⟩
  repeat (first | refine GO ?_ | refine NW fun _ => ?_)
  refine WC.loop (σ := Nat) (fun k => k ≤ 1 ∧ (k = 1 → op ≠ op')) (fun k => [(1, .val (.string op')), (9, .val (.slice (some ⟨b2, off2, none⟩) 1 cap)), (10, .val (.int .i64 1)), (11, .val (.int .i64 k))]) (fun _ => [ownS (some ⟨b2, off2, none⟩) 1 cap 248 1 [.pointer (some ⟨b, 0, none⟩)], A]) (fun k => 1 - k) 0 ⟨by decide, (fun h => absurd h (by decide))⟩ ⟨rfl, rfl, rfl, rfl, trivial⟩ II ?_
  rintro k ⟨hk, hne⟩
  obtain rfl | rfl : k = 0 ∨ k = 1 := by omega
  · repeat (first | refine GD ?_ | refine NW fun _ => ?_)
    refine WL.step rfl (OP.load1 (v := .pointer (some ⟨b, 0, none⟩)) rfl rfl rfl rfl (Ent.elem (i := 0) (Ent.own (T := 248) MM) rfl rfl) rfl rfl ?_)
    repeat (first | refine GD ?_ | refine NW fun _ => ?_)
    refine WL.step rfl (OP.load1 (v := .string op) rfl rfl rfl rfl (Ent.mem (A := A) MM hu (fun h x => cellsAt_one (i := 0) (hA h x).2 rfl)) rfl rfl ?_)
    by_cases ho : op = op'
    · rw [if_pos ho]
      repeat (first | refine GD ?_ | refine NW fun _ => ?_)
      refine WL.step rfl (OP.load1 (v := .int .i64 at_) rfl rfl rfl rfl (Ent.mem (A := A) MM hu (fun h x => cellsAt_one (i := 1) (hA h x).2 rfl)) rfl rfl ?_)
      repeat (first | refine GD ?_ | refine NW fun _ => ?_)
      exact ret2 rfl rfl ⟨rfl, MM⟩
    · rw [if_neg ho]
      repeat (first | refine GD ?_ | refine NW fun _ => ?_)
      exact ⟨1, ⟨by decide, fun _ => ho⟩, by decide, ⟨rfl, rfl, rfl, rfl, trivial⟩, Imp.refl _⟩
  · rw [if_neg (hne rfl)]
    repeat (first | refine GD ?_ | refine NW fun _ => ?_)
    exact ret2 rfl rfl ⟨rfl, MM⟩
end Go.Proofs.YtleajkobmhhacaaGreatDoor
/- Contracts of functions of the given program, and plain laws on what they compute: parts of the proofs of laws. -/

namespace Go.Proofs.YtleajkobmhhacaaGreatDoor
open Go Go.GL

def chainE (ch : Chain) (c : Int) : Assn := fun h => ErrT h ∧ chainR ch c h
theorem up_chainE (ch : Chain) (c : Int) : Up (chainE ch c) := up_and up_ErrT (up_chainR ch c)
set_option maxRecDepth 10000 in
theorem unwrapC_ro (b : Nat) (op : ByteArray) (at_ : Int) (v : Value) : RO G 268 [.pointer (some ⟨b, 0, none⟩)] (cellsAt b 0 [.string op, .int .i64 at_, v]) v := by
  refine RO.enter Tryz.func268 rfl (by decide) rfl Tryz.ntmps268 rfl (fun A hu hA => ?_) (up_cellsAt _ _ _)
  repeat (first | refine GO ?_ | refine NW fun _ => ?_)
  refine WL.step rfl (OP.load1 (v := v) rfl rfl rfl rfl (Ent.mem (A := A) MM hu (fun h x => cellsAt_one (i := 2) (hA h x) rfl)) rfl rfl ?_)
  repeat (first | refine GO ?_ | refine NW fun _ => ?_)
  exact ret1 rfl ⟨rfl, MM⟩
set_option maxHeartbeats 4000000 in
set_option maxRecDepth 10000 in
theorem asN_chain (p q : Nat) (c : Int) (old : Value) (A : Assn) (hu : Up A) (ch : Chain) (hA : ∀ h, A h → chainR ch c h) :
    Triple G 178 [valOf ch c, .iface 213 (.pointer (some ⟨p, 0, none⟩)), .agg #[hd 213, .pointer (some ⟨q, 0, none⟩), .int .u64 150], rt 91] [blk p [old] 91, blk q [.pointer (some ⟨p, 0, none⟩)] 213, A] (fun v M => v = .bool true ∧ M = [blk p [.int .i64 c] 91, A]) := by
  refine Triple.enter Tryz.func178 rfl (by decide) rfl Tryz.ntmps178 rfl (fun X => ?_)
  repeat (first | refine GO ?_ | refine NW fun _ => ?_)
  rename_i bx
  refine WC.loop (σ := Chain) (fun s => ∀ h, A h → chainR s c h) (fun s => [(0, .val (valOf s c)), (1, .val (.iface 213 (.pointer (some ⟨p, 0, none⟩)))), (3, .val (rt 91)), (6, .val (.pointer (some ⟨bx, 0, none⟩))), (8, .val (.bool false))])
    (fun _ => [blk bx [hd 213, .pointer (some ⟨q, 0, none⟩), .int .u64 150] 281, blk p [old] 91, blk q [.pointer (some ⟨p, 0, none⟩)] 213, A, X]) (fun s => s.length) ch hA ⟨rfl, rfl, rfl, rfl, rfl, trivial⟩ II ?_
  rintro s hs
  cases s with
  | nil =>
    repeat (first | refine GD ?_ | refine NW fun _ => ?_)
    refine WL.step rfl (OP.extP (.call xTypeOf rfl rfl) (fun w _ => typeOfN _ w) rfl rfl ?_)
    repeat (first | refine GD ?_ | refine NW fun _ => ?_)
    refine WL.step rfl (OP.extP (.inv xAssignableTo rfl rfl rfl (fun w => mAssignableTo _ w)) (fun w _ => assignNN w) rfl rfl ?_)
    repeat (first | refine GD ?_ | refine NW fun _ => ?_)
    refine WL.step rfl (OP.extP (.call xElemV rfl rfl) (fun w s => elemVNP _ ⟨p, 0, none⟩ w (cell_of_blk0 (b := q) s MM rfl)) rfl rfl ?_)
    repeat (first | refine GD ?_ | refine NW fun _ => ?_)
    refine WL.step rfl (OP.extNew (mk := (fun n => .agg #[hd 91, .pointer (some ⟨n, 0, none⟩), .int .u64 130])) (.call xValueOf rfl rfl) (fun w _ => valueOfN _ w) rfl rfl (fun q2 => ?_))
    repeat (first | refine GD ?_ | refine NW fun _ => ?_)
    refine WL.step rfl (OP.extSet (.call xSet rfl rfl) (fun w s => setN ⟨p, 0, none⟩ ⟨q2, 0, none⟩ c old w (cell_of_blk0 (b := q2) s MM rfl) (cell_of_blk0 (b := p) s MM rfl) (Sat.notFrozen (b := p) (c := [old]) (T := 91) s MM (Nat.zero_lt_succ _))) (by repeat (first | exact Upd.here _ _ _ _ _ | apply Upd.there)) rfl rfl ?_)
    repeat (first | refine GD ?_ | refine NW fun _ => ?_)
    exact ret1 rfl ⟨_, ⟨rfl, rfl⟩, II⟩
  | cons x r =>
    repeat (first | refine GD ?_ | refine NW fun _ => ?_)
    refine WL.step rfl (OP.extP (.call xTypeOf rfl rfl) (fun w _ => typeOfF _ w) rfl rfl ?_)
    repeat (first | refine GD ?_ | refine NW fun _ => ?_)
    refine WL.step rfl (OP.extP (.inv xAssignableTo rfl rfl rfl (fun w => mAssignableTo _ w)) (fun w _ => assignFN w) rfl rfl ?_)
    repeat (first | refine GD ?_ | refine NW fun _ => ?_)
    refine WL.step rfl (OP.assert rfl rfl (fun w => assertFIA _ w) rfl rfl ?_)
    repeat (first | refine GD ?_ | refine NW fun _ => ?_)
    refine WL.step rfl (OP.assert rfl rfl (fun w => assertFIU _ w) rfl rfl ?_)
    repeat (first | refine GD ?_ | refine NW fun _ => ?_)
    refine WL.step rfl (OP.invRO rfl rfl (fun w => mUnwrap _ w) (unwrapC_ro x.1 x.2.1 x.2.2 (valOf r c)) (Ent.mem (A := A) MM hu (fun h a => (hs h a).1)) rfl rfl ?_)
    cases r with
    | nil =>
      repeat (first | refine GD ?_ | refine NW fun _ => ?_)
      exact ⟨[], (fun h a => (hs h a).2), by simp, ⟨rfl, rfl, rfl, rfl, rfl, trivial⟩, II⟩
    | cons y r =>
      repeat (first | refine GD ?_ | refine NW fun _ => ?_)
      exact ⟨y :: r, (fun h a => (hs h a).2), by simp, ⟨rfl, rfl, rfl, rfl, rfl, trivial⟩, II⟩
set_option maxHeartbeats 4000000 in
set_option maxRecDepth 10000 in
theorem as_codeC (p : Nat) (c : Int) (old : Value) (A : Assn) (hu : Up A) (ch : Chain) (hA : ∀ h, A h → chainE ch c h) :
    Triple G 112 [valOf ch c, .iface 213 (.pointer (some ⟨p, 0, none⟩))] ([blk p [old] 91, A]) (fun v M => v = .bool true ∧ M = [blk p [.int .i64 c] 91, A]) := by
  refine Triple.enter Tryz.func112 rfl (by decide) rfl Tryz.ntmps112 rfl (fun F => ?_)
  have hE : ∀ h, A h → ErrT h := fun h a => (hA h a).1
  have hN := fun p q old => asN_chain p q c old A hu ch (fun h a => (hA h a).2)
  cases ch with
  | nil =>
    repeat (first | refine GO ?_ | refine NW fun _ => ?_)
    refine WL.step rfl (OP.extNew (mk := fun n => .agg #[hd 213, .pointer (some ⟨n, 0, none⟩), .int .u64 150]) (.call xValueOf rfl rfl) (fun w _ => valueOfNP _ w) rfl rfl (fun q => ?_))
    repeat (first | refine GO ?_ | refine NW fun _ => ?_)
    refine WL.step rfl (OP.extP (.call xType rfl rfl) (fun w _ => typeNP _ w) rfl rfl ?_)
    repeat (first | refine GO ?_ | refine NW fun _ => ?_)
    refine WL.step rfl (OP.extP (.inv xKind rfl rfl rfl (fun w => mKind _ w)) (fun w _ => kindNP w) rfl rfl ?_)
    repeat (first | refine GO ?_ | refine NW fun _ => ?_)
    refine WL.guardT rfl rfl rfl rfl (OP.extP (.call xIsNil rfl rfl) (fun w s => isNilNP _ ⟨p, 0, none⟩ w (cell_of_blk0 (b := q) s MM rfl)) rfl rfl ?_)
    repeat (first | refine GO ?_ | refine NW fun _ => ?_)
    refine WL.step rfl (OP.extP (.inv xElem rfl rfl rfl (fun w => mElem _ w)) (fun w _ => elemNP w) rfl rfl ?_)
    repeat (first | refine GO ?_ | refine NW fun _ => ?_)
    refine WL.step rfl (OP.extP (.inv xKind rfl rfl rfl (fun w => mKind _ w)) (fun w _ => kindN w) rfl rfl ?_)
    repeat (first | refine GO ?_ | refine NW fun _ => ?_)
    refine WL.guardT rfl rfl rfl rfl (OP.load1 (v := errT) rfl rfl rfl rfl (Ent.mem (A := A) MM hu hE) rfl rfl ?_)
    repeat (first | refine GO ?_ | refine NW fun _ => ?_)
    refine WL.guardT rfl rfl rfl rfl (OP.extP (.inv xImplements rfl rfl rfl (fun w => mImplements _ w)) (fun w _ => implementsN w) rfl rfl ?_)
    repeat (first | refine GO ?_ | refine NW fun _ => ?_)
    refine WL.step rfl (OP.call (pre := [blk p [old] 91, blk q [.pointer (some ⟨p, 0, none⟩)] 213, A]) rfl rfl (hN p q old) PS rfl rfl ?_)
    rintro _ _ ⟨rfl, rfl⟩
    repeat (first | refine GO ?_ | refine NW fun _ => ?_)
    exact ret1 rfl ⟨_, ⟨rfl, rfl⟩, II⟩
  | cons x r =>
    repeat (first | refine GO ?_ | refine NW fun _ => ?_)
    refine WL.step rfl (OP.extNew (mk := fun n => .agg #[hd 213, .pointer (some ⟨n, 0, none⟩), .int .u64 150]) (.call xValueOf rfl rfl) (fun w _ => valueOfNP _ w) rfl rfl (fun q => ?_))
    repeat (first | refine GO ?_ | refine NW fun _ => ?_)
    refine WL.step rfl (OP.extP (.call xType rfl rfl) (fun w _ => typeNP _ w) rfl rfl ?_)
    repeat (first | refine GO ?_ | refine NW fun _ => ?_)
    refine WL.step rfl (OP.extP (.inv xKind rfl rfl rfl (fun w => mKind _ w)) (fun w _ => kindNP w) rfl rfl ?_)
    repeat (first | refine GO ?_ | refine NW fun _ => ?_)
    refine WL.guardT rfl rfl rfl rfl (OP.extP (.call xIsNil rfl rfl) (fun w s => isNilNP _ ⟨p, 0, none⟩ w (cell_of_blk0 (b := q) s MM rfl)) rfl rfl ?_)
    repeat (first | refine GO ?_ | refine NW fun _ => ?_)
    refine WL.step rfl (OP.extP (.inv xElem rfl rfl rfl (fun w => mElem _ w)) (fun w _ => elemNP w) rfl rfl ?_)
    repeat (first | refine GO ?_ | refine NW fun _ => ?_)
    refine WL.step rfl (OP.extP (.inv xKind rfl rfl rfl (fun w => mKind _ w)) (fun w _ => kindN w) rfl rfl ?_)
    repeat (first | refine GO ?_ | refine NW fun _ => ?_)
    refine WL.guardT rfl rfl rfl rfl (OP.load1 (v := errT) rfl rfl rfl rfl (Ent.mem (A := A) MM hu hE) rfl rfl ?_)
    repeat (first | refine GO ?_ | refine NW fun _ => ?_)
    refine WL.guardT rfl rfl rfl rfl (OP.extP (.inv xImplements rfl rfl rfl (fun w => mImplements _ w)) (fun w _ => implementsN w) rfl rfl ?_)
    repeat (first | refine GO ?_ | refine NW fun _ => ?_)
    refine WL.step rfl (OP.call (pre := [blk p [old] 91, blk q [.pointer (some ⟨p, 0, none⟩)] 213, A]) rfl rfl (hN p q old) PS rfl rfl ?_)
    rintro _ _ ⟨rfl, rfl⟩
    repeat (first | refine GO ?_ | refine NW fun _ => ?_)
    exact ret1 rfl ⟨_, ⟨rfl, rfl⟩, II⟩
set_option maxRecDepth 10000 in
theorem codeC (ch : Chain) (c : Int) : RO G 44 [valOf ch c] (chainE ch c) (.int .i64 c) := by
  refine RO.enter Tryz.func44 rfl (by decide) rfl Tryz.ntmps44 rfl (fun A hu hA => ?_) (up_chainE _ _)
  repeat (first | refine GO ?_ | refine NW fun _ => ?_)
  rename_i p
  refine WL.step rfl (OP.call (pre := [blk p [.int .i64 0] 91, A]) rfl rfl (as_codeC p c (.int .i64 0) A hu ch hA) PS rfl rfl ?_)
  rintro _ _ ⟨rfl, rfl⟩
  repeat (first | refine GO ?_ | refine NW fun _ => ?_)
  exact ret1 rfl ⟨rfl, MM⟩
def ptrOf (x : Nat × ByteArray × Int) : Value := .pointer (some ⟨x.1, 0, none⟩)
theorem asFN (p : Nat) (ch : Chain) (c : Int) (old : Value) (A : Assn) (hu : Up A) (hA : ∀ h, A h → ErrT h) :
    Triple G 112 [valOf ch c, .iface 315 (.pointer (some ⟨p, 0, none⟩))] ([blk p [old] 248, A]) (fun v M => match ch with
      | [] => v = .bool false ∧ M = [blk p [old] 248, A]
      | x :: _ => v = .bool true ∧ M = [blk p [ptrOf x] 248, A]) := by
  cases ch with
  | nil => exact as_faultsN p c old A hu hA
  | cons x r => exact as_faults x.1 p old A hu hA
set_option maxHeartbeats 1000000 in
set_option maxRecDepth 10000 in
theorem faultsC (ch : Chain) (c : Int) (hl : ch.length < 1000) : RT G 151 [valOf ch c] (chainE ch c) (Ptrs (ch.map ptrOf)) := by
  refine RT.enter Tryz.func151 rfl (by decide) rfl Tryz.ntmps151 rfl (fun A hu hA => ?_)
  repeat (first | refine GO ?_ | refine NW fun _ => ?_)
  rename_i p
  refine WC.imp (Imp.nilS 248 1) ?_
  refine WC.loop (σ := Chain × Chain × Value × Option Addr × Nat) (fun s => s.1 ++ s.2.1 = ch ∧ ∀ h, A h → chainR s.2.1 c h)
    (fun s => [(0, .val (valOf s.2.1 c)), (3, .val (.slice s.2.2.2.1 s.1.length s.2.2.2.2)), (4, .val (.pointer (some ⟨p, 0, none⟩)))])
    (fun s => [blk p [s.2.2.1] 248, ownS s.2.2.2.1 s.1.length s.2.2.2.2 248 1 (s.1.map ptrOf), A])
    (fun s => s.2.1.length) ([], ch, .pointer none, none, 0) ⟨rfl, fun h a => (hA h a).2⟩ ⟨rfl, rfl, rfl, trivial⟩ II ?_
  rintro ⟨d, r, old, a, cap⟩ ⟨hd, hr⟩
  dsimp only at hd hr ⊢
  have hE : ∀ h, A h → ErrT h := fun h a => (hA h a).1
  cases r with
  | nil =>
    rw [List.append_nil] at hd
    subst hd
    repeat (first | refine GO ?_ | refine NW fun _ => ?_)
    refine WL.step rfl (OP.call (pre := [blk p [old] 248, A]) rfl rfl (as_faultsN p c _ A hu hE) PS rfl rfl ?_)
    rintro _ _ ⟨rfl, rfl⟩
    repeat (first | refine GO ?_ | refine NW fun _ => ?_)
    exact ret1 rfl ⟨[_], ⟨a, cap, by rw [List.length_map], by rw [List.length_map]⟩, II⟩
  | cons x r =>
    have hdl : d.length < 1000 := by rw [← hd, List.length_append] at hl; omega
    repeat (first | refine GO ?_ | refine NW fun _ => ?_)
    refine WL.step rfl (OP.call (pre := [blk p [old] 248, A]) rfl rfl (as_faults x.1 p _ A hu hE) PS rfl rfl ?_)
    rintro _ _ ⟨rfl, rfl⟩
    repeat (first | refine GO ?_ | refine NW fun _ => ?_)
    refine WL.step rfl (OP.append rfl rfl rfl rfl rfl rfl rfl rfl rfl P1 (Ent.own MM) rfl (by omega) (by omega) rfl rfl (fun a2 cap2 => ?_))
    repeat (first | refine GO ?_ | refine NW fun _ => ?_)
    refine WL.step rfl (OP.load1 (v := valOf r c) rfl rfl rfl rfl (Ent.mem (A := A) MM hu (fun h y => cellsAt_one (i := 2) (hr h y).1 rfl)) rfl rfl ?_)
    repeat (first | refine GO ?_ | refine NW fun _ => ?_)
    exact ⟨(d ++ [x], r, .pointer (some ⟨x.1, 0, none⟩), a2, cap2), ⟨by rw [← hd]; simp, fun h a => (hr h a).2⟩, by dsimp only; simp, ⟨rfl, by rw [List.length_append]; rfl, rfl, trivial⟩, by rw [List.length_append, List.map_append]; exact II⟩
/-- the outermost one of a name -/
def firstC (op : ByteArray) : List (ByteArray × Int) → Option Int
  | [] => none
  | x :: r => if x.1 = op then some x.2 else firstC op r
def firstV (o : Option Int) : Value := match o with
  | some n => .tuple #[.int .i64 n, .bool true]
  | none => .tuple #[.int .i64 0, .bool false]
theorem chainR_get : ∀ {ch : Chain} {c : Int} {h : Hp}, chainR ch c h → ∀ k (hk : k < ch.length), ∃ v, cellsAt ch[k].1 0 [.string ch[k].2.1, .int .i64 ch[k].2.2, v] h
  | x :: r, c, h, hh, 0, _ => ⟨_, hh.1⟩
  | x :: r, c, h, hh, k + 1, hk => chainR_get hh.2 k (by simpa using hk)
theorem cellsAt_pre {b off : Nat} {l m : List Value} {h : Hp} (x : cellsAt b off (l ++ m) h) : cellsAt b off l h := by
  obtain ⟨c, T, fr, hb, hc⟩ := x
  exact ⟨c, T, fr, hb, fun i v hi => hc i v (by rw [List.getElem?_append_left (List.getElem?_eq_some_iff.1 hi).1]; exact hi)⟩
set_option maxHeartbeats 1000000 in
set_option maxRecDepth 10000 in
theorem firstC_ro (ch : Chain) (c : Int) (op : ByteArray) (hl : ch.length < 1000) : RO G 80 [valOf ch c, .string op] (chainE ch c) (firstV (firstC op (ch.map Prod.snd))) := by
  refine RO.enter Tryz.func80 rfl (by decide) rfl Tryz.ntmps80 rfl (fun A hu hA => ?_) (up_chainE _ _)
  repeat (first | refine GO ?_ | refine NW fun _ => ?_)
  refine WL.step rfl (OP.callRT rfl rfl (faultsC ch c hl) (Ent.mem MM hu hA) rfl rfl ?_)
  rintro v E ⟨a, cap, rfl, rfl⟩
  rw [List.length_map]
  repeat (first | refine GO ?_ | refine NW fun _ => ?_)
  refine WC.loop (σ := Nat) (fun k => k ≤ ch.length ∧ firstC op (ch.map Prod.snd) = firstC op ((ch.drop k).map Prod.snd)) (fun k => [(1, .val (.string op)), (9, .val (.slice a ch.length cap)), (10, .val (.int .i64 ch.length)), (11, .val (.int .i64 k))]) (fun _ => [ownS a ch.length cap 248 1 (ch.map ptrOf), A]) (fun k => ch.length - k) 0 ⟨Nat.zero_le _, rfl⟩ ⟨rfl, rfl, rfl, rfl, trivial⟩ II ?_
  rintro k ⟨hk, hf⟩
  by_cases hlt : k < ch.length
  rotate_left
  · rw [List.drop_eq_nil_of_le (by omega)] at hf
    rw [hf]
    repeat (first | refine GD ?_ | refine NW fun _ => ?_)
    exact ret2 rfl rfl ⟨rfl, MM⟩
  rw [List.drop_eq_getElem_cons hlt, List.map_cons] at hf
  refine WC.fact (Ent.some (Ent.own (a := a) (n := ch.length) (cap := cap) (T := 248) (size := 1) (cs := ch.map ptrOf) MM) (by omega)) ?_
  rintro ⟨b2, off2, rfl⟩
  have hg : ∀ {L}, A ∈ L → Ent L (cellsAt ch[k].1 0 [.string ch[k].2.1, .int .i64 ch[k].2.2]) := fun m => Ent.mem m hu fun h a => by
    obtain ⟨v, hv⟩ := chainR_get (hA h a).2 k hlt
    exact cellsAt_pre (m := [v]) hv
  have hel : (ch.map ptrOf)[k * 1]? = some (ptrOf ch[k]) := by simp [hlt]
  generalize ch[k] = x at *
  repeat (first | refine GD ?_ | refine NW fun _ => ?_)
  refine WL.step rfl (OP.load1 (v := .pointer (some ⟨x.1, 0, none⟩)) rfl rfl rfl rfl (Ent.elem (i := k * 1) (Ent.own (T := 248) MM) rfl hel) rfl rfl ?_)
  repeat (first | refine GD ?_ | refine NW fun _ => ?_)
  refine WL.step rfl (OP.load1 (v := .string x.2.1) rfl rfl rfl rfl (Ent.one (i := 0) (hg MM) rfl) rfl rfl ?_)
  by_cases ho : x.2.1 = op
  · rw [hf, firstC, if_pos ho]
    repeat (first | refine GD ?_ | refine NW fun _ => ?_)
    refine WL.step rfl (OP.load1 (v := .int .i64 x.2.2) rfl rfl rfl rfl (Ent.one (i := 1) (hg MM) rfl) rfl rfl ?_)
    repeat (first | refine GD ?_ | refine NW fun _ => ?_)
    exact ret2 rfl rfl ⟨rfl, MM⟩
  · rw [firstC, if_neg ho] at hf
    repeat (first | refine GD ?_ | refine NW fun _ => ?_)
    exact ⟨k + 1, ⟨by omega, hf⟩, by omega, ⟨rfl, rfl, rfl, rfl, trivial⟩, Imp.refl _⟩
end Go.Proofs.YtleajkobmhhacaaGreatDoor
