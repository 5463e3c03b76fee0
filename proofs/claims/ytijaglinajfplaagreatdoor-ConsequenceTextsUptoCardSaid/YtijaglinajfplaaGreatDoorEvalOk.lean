/-
  What the evaluating function gives is what the model's operation gives.
  Conditions: none beyond those that each theorem states.
-/
import Derived.Test.YtijaglinajfplaaGreatDoorEval
namespace Go.Proofs.YtijaglinajfplaaGreatDoor
open Go.RowKit

section
variable {P : Program} {T : Tab} (hT : TabOK P T) {e : Operand → Option Value} {ρ : Operand → Value}

theorem iop_ok {op : BinOp} {k : IntKind} {a b : Int} {v : Value} (h : iop op k a b = some v) (hop : op ≠ .shl ∧ op ≠ .shr) (t : TypeId) (w : World) :
    (binOp op t (.int k a) (.int k b)).run P w = .ok v w := by
  cases op <;> simp_all [iop, binOp, Op.intArith, Op.intDiv, Op.intBits, Op.intCmp, go_sem] <;> (try (obtain ⟨h1, h2⟩ := h; simp_all)) <;> (try rfl)

theorem shop_ok {op : BinOp} {k l : IntKind} {a b : Int} {v : Value} (h : shop op k a b = some v) (t : TypeId) (w : World) :
    (binOp op t (.int k a) (.int l b)).run P w = .ok v w := by
  cases op <;> simp_all [shop, binOp, Op.shift, go_sem] <;> (obtain ⟨h1, h2⟩ := h; simp_all [Int.not_lt.2 h1]) <;> omega

theorem sop_ok {op : BinOp} {a b : ByteArray} {v : Value} (h : sop op a b = some v) (t : TypeId) (w : World) : (binOp op t (.string a) (.string b)).run P w = .ok v w := by
  cases op <;> simp_all [sop, binOp, Op.stringOp, go_sem]

include hT in
theorem eqop_ok {t : TypeId} {x y : Value} {b : Bool} (h : eqop T t x y = some b) (w : World) : (Op.equal t x y).run P w = .ok b w := by
  suffices hd : ∀ d, (Op.equalIn (d + 1) t x y).run P w = .ok b w from hd 9999
  intro n
  unfold eqop at h
  split at h
  · rename_i hr
    obtain ⟨d, hd, hk⟩ := hT.und hr
    cases d <;> simp [chkKind] at hk
    simp at h; subst h
    simp [Op.equalIn, underlying, hd, go_sem]
  · rename_i hr
    obtain ⟨d, hd, hk⟩ := hT.und hr
    cases d <;> simp [chkKind] at hk
    split at h <;> simp at h <;> subst h <;> simp [Op.equalIn, underlying, hd, go_sem]
  · rename_i hr
    obtain ⟨d, hd, hk⟩ := hT.und hr
    cases d <;> simp [chkKind] at hk
    split at h <;> simp at h <;> subst h <;> simp [Op.equalIn, underlying, hd, go_sem]
  · cases h

include hT in
theorem eop_ok {op : BinOp} {t : TypeId} {x y v : Value} (hxy : (∃ a b, x = .bool a ∧ y = .bool b) ∨ (∃ a b, x = .pointer a ∧ y = .pointer b) ∨ (∃ a m n b m' n', x = .slice a m n ∧ y = .slice b m' n')) (h : eop T op t x y = some v) (w : World) :
    (binOp op t x y).run P w = .ok v w := by
  cases op <;> simp only [eop] at h <;> try (cases h; done)
  all_goals
    split at h
    · rename_i b hb
      simp at h; subst h
      have := eqop_ok hT hb w
      rcases hxy with ⟨a, c, rfl, rfl⟩ | ⟨a, c, rfl, rfl⟩ | ⟨a, m, n, c, m', n', rfl, rfl⟩ <;> simp [binOp, this, go_sem]
    · cases h

theorem mapM_sizes (P : Program) (w : World) (fields : Array Field) (h : ∀ f ∈ fields, ∃ i, P.info? f.type = some i) :
    (fields.mapM fun f => do pure (f.offset, ← Go.sizeOf f.type) : Sem (Array (Nat × Nat))).run P w = .ok ((fields.toList.map fun f => (f.offset, ((P.info? f.type).map (·.size)).getD 0)).toArray) w := by
  obtain ⟨l⟩ := fields
  simp only [List.mapM_toArray]
  suffices hl : (l.mapM fun f => do pure (f.offset, ← Go.sizeOf f.type) : Sem (List (Nat × Nat))).run P w = .ok (l.map fun f => (f.offset, ((P.info? f.type).map (·.size)).getD 0)) w by
    show Sem.run P (Sem.bind _ _) w = _
    rw [Sem.run_bind', hl]; rfl
  induction l with
  | nil => rfl
  | cons f l ih =>
    obtain ⟨i, hi⟩ := h f (by simp)
    have ih := ih fun g hg => h g (by simp at hg ⊢; exact .inr hg)
    simp [List.mapM_cons, Go.sizeOf, typeInfo, hi, go_sem] at ih ⊢
    simp [ih]

include hT in
theorem qv_call_ok {c : Call} {v : Value} {dst : Option Tmp} {ty : TypeId} {pos : String} {after : Array Edge} {guard : Option (Nat × Bool)} (h : qv T e (.call c) = some v) (hev : ∀ x ∈ (Op.call c).operands, ∀ u, e x = some u → ρ x = u) (w : World) :
    (execOp ρ ⟨dst, .call c, ty, pos, after, guard⟩).run P w = .ok (.value v) w := by
  obtain ⟨callee, args, tys⟩ := c
  cases callee with
  | value f => simp only [qv] at h; cases h
  | invoke r m => simp only [qv] at h; cases h
  | builtin b =>
    cases b <;> simp only [qv] at h <;> try (cases h; done)
    case len =>
      split at h
      · rename_i x t ha ht
        have ha' : args = #[x] := by rw [← Array.toList_inj]; simpa using ha
        have ht' : tys = #[t] := by rw [← Array.toList_inj]; simpa using ht
        subst ha' ht'
        have hx := hev x (by simp [Op.operands, Call.operands])
        split at h
        · rename_i hr he
          obtain ⟨d, hd, hk⟩ := hT.und hr
          cases d <;> simp [chkKind] at hk
          simp at h; subst h
          simp [Builtin.len_, hx _ he, underlying, hd, go_sem, goInt]
        · rename_i hr he
          obtain ⟨d, hd, hk⟩ := hT.und hr
          cases d <;> simp [chkKind] at hk
          simp at h; subst h
          simp [Builtin.len_, hx _ he, underlying, hd, go_sem, goInt]
        · rename_i hr he
          obtain ⟨d, hd, hk⟩ := hT.und hr
          cases d <;> simp [chkKind] at hk
          obtain ⟨rfl, rfl⟩ := hk
          simp at h; subst h
          simp [Builtin.len_, underlying, hd, go_sem, goInt]
        · cases h
      · cases h
    case min =>
      split at h
      · rename_i x y ha
        have ha' : args = #[x, y] := by rw [← Array.toList_inj]; simpa using ha
        subst ha'
        split at h
        · rename_i k a l b hx hy
          have h1 := hev x (by simp [Op.operands, Call.operands]) _ hx
          have h2 := hev y (by simp [Op.operands, Call.operands]) _ hy
          simp at h; subst h
          simp [Builtin.min_, Builtin.min2, h1, h2, go_sem]
        · cases h
      · cases h
    case max =>
      split at h
      · rename_i x y ha
        have ha' : args = #[x, y] := by rw [← Array.toList_inj]; simpa using ha
        subst ha'
        split at h
        · rename_i k a l b hx hy
          have h1 := hev x (by simp [Op.operands, Call.operands]) _ hx
          have h2 := hev y (by simp [Op.operands, Call.operands]) _ hy
          simp at h; subst h
          simp [Builtin.max_, Builtin.max2, h1, h2, go_sem]
        · cases h
      · cases h

include hT in
/-- The evaluating function is right. -/
theorem qv_ok {o : Oper} {v : Value} (h : qv T e o.op = some v) (hev : ∀ x ∈ o.op.operands, ∀ u, e x = some u → ρ x = u) (w : World) : (execOp ρ o).run P w = .ok (.value v) w := by
  obtain ⟨dst, op, ty, pos, after, guard⟩ := o
  simp only at h hev
  cases op
  case call c => exact qv_call_ok hT h hev w
  all_goals simp only [qv] at h
  all_goals try (cases h; done)
  case move x => 
    have := hev x (by simp [Op.operands]) v h
    simp [execOp, this, go_sem]
  case assign x =>
    have := hev x (by simp [Op.operands]) v h
    simp [execOp, this, go_sem]
  case pick c a b =>
    split at h
    · rename_i c' x y hc ha hb
      have h1 := hev c (by simp [Op.operands]) _ hc
      have h2 := hev a (by simp [Op.operands]) _ ha
      have h3 := hev b (by simp [Op.operands]) _ hb
      simp at h; subst h
      cases c' <;> simp [execOp, h1, h2, h3, go_sem, asBool]
    · rename_i c' x y _ hc ha hb
      have h1 := hev c (by simp [Op.operands]) _ hc
      have h2 := hev a (by simp [Op.operands]) _ ha
      have h3 := hev b (by simp [Op.operands]) _ hb
      cases c' <;> simp at h <;> subst h <;> simp [execOp, h1, h2, h3, go_sem, asBool]
    · cases h
  case binOp op t x y yt =>
    split at h
    · rename_i k a l b hx hy
      have h1 := hev x (by simp [Op.operands]) _ hx
      have h2 := hev y (by simp [Op.operands]) _ hy
      have hr : (binOp op t (.int k a) (.int l b)).run P w = .ok v w := by
        split at h
        · exact shop_ok h t w
        · exact shop_ok h t w
        · rename_i hn1 hn2
          cases hk : ikEq k l with
          | false => simp [hk] at h
          | true =>
            obtain rfl := ikEq_eq hk
            simp only [hk, cond_true] at h
            exact iop_ok h ⟨hn1, hn2⟩ t w
      simp [execOp, h1, h2, hr, go_sem]
    · rename_i a b hx hy
      have h1 := hev x (by simp [Op.operands]) _ hx
      have h2 := hev y (by simp [Op.operands]) _ hy
      have hr := sop_ok (P := P) h t w
      simp [execOp, h1, h2, hr, go_sem]
    · rename_i a b hx hy
      have h1 := hev x (by simp [Op.operands]) _ hx
      have h2 := hev y (by simp [Op.operands]) _ hy
      have hr := eop_ok hT (.inl ⟨_, _, rfl, rfl⟩) h w
      simp [execOp, h1, h2, hr, go_sem]
    · rename_i a b hx hy
      have h1 := hev x (by simp [Op.operands]) _ hx
      have h2 := hev y (by simp [Op.operands]) _ hy
      have hr := eop_ok hT (.inr (.inl ⟨_, _, rfl, rfl⟩)) h w
      simp [execOp, h1, h2, hr, go_sem]
    · rename_i a m n b m' n' hx hy
      have h1 := hev x (by simp [Op.operands]) _ hx
      have h2 := hev y (by simp [Op.operands]) _ hy
      have hr := eop_ok hT (.inr (.inr ⟨_, _, _, _, _, _, rfl, rfl⟩)) h w
      simp [execOp, h1, h2, hr, go_sem]
    · cases h
  case unOp op t x =>
    split at h
    · rename_i b hx
      have h1 := hev x (by simp [Op.operands]) _ hx
      simp at h; subst h
      simp [execOp, h1, Op.unary, go_sem]
    · rename_i k n hx
      have h1 := hev x (by simp [Op.operands]) _ hx
      simp at h; subst h
      simp [execOp, h1, Op.unary, Op.intArith, go_sem]
    · cases h
  case convert s d x =>
    split at h
    · rename_i rs k hsz hb hz k' n hs hd hx
      have h1 := hev x (by simp [Op.operands]) _ hx
      obtain ⟨ds, hds, _⟩ := hT.und hs
      obtain ⟨dd, hdd, hk⟩ := hT.und hd
      cases dd <;> simp [chkKind] at hk
      subst hk
      simp at h; subst h
      simp [execOp, h1, convert, underlying, hds, hdd, Conv.intToInt, go_sem]
    · rename_i hs hd hx
      have h1 := hev x (by simp [Op.operands]) _ hx
      obtain ⟨ds, hds, hks⟩ := hT.und hs
      obtain ⟨dd, hdd, hk⟩ := hT.und hd
      cases dd <;> simp [chkKind] at hk
      cases ds <;> simp [chkKind] at hks
      simp at h; subst h
      simp [execOp, h1, convert, underlying, hds, hdd, go_sem]
    · cases h
  case nilCheck x =>
    split at h
    all_goals first | (cases h; done) | skip
    all_goals
      rename_i hx
      have h1 := hev x (by simp [Op.operands]) _ hx
      simp at h; subst h
      simp [execOp, h1, go_sem]
  case fieldAddr s x f =>
    split at h
    · rename_i fs _ _ _ a hs hx
      have h1 := hev x (by simp [Op.operands]) _ hx
      obtain ⟨d, hd, hk⟩ := hT.und hs
      cases d <;> simp [chkKind] at hk
      rename_i fields
      split at h
      · rename_i o t n hn
        split at h
        · rename_i c hc
          simp at h; subst h
          rw [nth_eq, ← hk.1] at hn
          simp only [List.getElem?_map, Option.map_eq_some_iff, Array.getElem?_toList, Prod.mk.injEq] at hn
          obtain ⟨fl, hfl, rfl, rfl, rfl⟩ := hn
          have hpos := hk.2 fl.offset fl.type (((P.info? fl.type).map (·.size)).getD 0) (by rw [← hk.1]; exact List.mem_map.2 ⟨fl, by simpa using Array.mem_of_getElem? hfl, rfl⟩)
          cases hi : P.info? fl.type with
          | none => simp [hi] at hpos
          | some i =>
            have hsz : i.size ≠ 0 := by simp [hi] at hpos; omega
            simp [execOp, h1, Instr.fieldAt, Instr.sureAddr, underlying, hd, hfl, fieldPlace, Go.sizeOf, typeInfo, hi, hsz, addOff_eq hc, go_sem]
        · cases h
      · cases h
    · cases h
  case field s x f =>
    split at h
    · rename_i fs _ _ _ cs hs hx
      have h1 := hev x (by simp [Op.operands]) _ hx
      obtain ⟨d, hd, hk⟩ := hT.und hs
      cases d <;> simp [chkKind] at hk
      rename_i fields
      split at h
      · rename_i o t n hn
        rw [nth_eq, ← hk.1] at hn
        simp only [List.getElem?_map, Option.map_eq_some_iff, Array.getElem?_toList, Prod.mk.injEq] at hn
        obtain ⟨fl, hfl, rfl, rfl, rfl⟩ := hn
        have hag : ∀ r, lookT T fl.type = some r → r.k.isAgg = true → r.k ≠ .other → cutF cs.toList fl.offset (((P.info? fl.type).map (·.size)).getD 0) (fun l => some (Value.agg l.toArray)) = some v →
            (execOp ρ ⟨dst, .field s x f, ty, pos, after, guard⟩).run P w = .ok (.value v) w := fun r hr ha ho hc => by
          obtain ⟨h2, _, h3⟩ := cutF_eq _ _ _ _ _ hc
          obtain ⟨i, d', z, hi, hd', hsz, _, hk', _, _, _⟩ := hT.row hr
          have hia := hT.isAgg hr ho
          rw [ha] at hia
          simp [hi] at h2 h3
          simp [execOp, h1, Instr.field, underlying, hd, hfl, part, hia, Go.sizeOf, typeInfo, hi, go_sem, asAgg]
          rw [← h2]
          congr 1
          rw [← Array.toList_inj]
          simp [List.extract_eq_take_drop]
        have hno : ∀ r, lookT T fl.type = some r → r.k.isAgg = false → r.k ≠ .other → nth cs.toList fl.offset = some v →
            (execOp ρ ⟨dst, .field s x f, ty, pos, after, guard⟩).run P w = .ok (.value v) w := fun r hr ha ho hc => by
          have hia := hT.isAgg hr ho
          rw [ha] at hia
          rw [nth_eq] at hc
          simp at hc
          simp [execOp, h1, Instr.field, underlying, hd, hfl, part, hia, go_sem, asAgg, hc]
        split at h
        · rename_i hr; exact hag _ hr rfl (by simp) h
        · rename_i hr; exact hag _ hr rfl (by simp) h
        · cases h
        · rename_i r hn1 hn2 hn3 hr
          refine hno _ hr ?_ ?_ h
          · cases hk2 : r.k <;> simp [TK.isAgg] <;> (obtain ⟨k, s1, b1, z1⟩ := r; simp at hk2; subst hk2; first | exact hn1 _ _ _ _ rfl | exact hn2 _ _ _ _ _ rfl)
          · intro hk2; obtain ⟨k, s1, b1, z1⟩ := r; simp at hk2; subst hk2; exact hn3 _ _ _ rfl
        · cases h
      · cases h
    · cases h
  case build t ps =>
    have hops : ∀ x ∈ ps.toList, ∀ u, e x.2 = some u → ρ x.2 = u := fun x hx => hev x.2 (by simp only [Op.operands, List.mem_toArray, List.mem_map]; exact ⟨x, hx, rfl⟩)
    have hmap : (ps.map fun (x : Nat × Operand) => (x.1, ρ x.2)).toList = ps.toList.map fun x => (x.1, ρ x.2) := by simp
    split at h
    · rename_i fs _ _ zero hs
      obtain ⟨i, d, z, hi, hd, _, _, hk, hz, hzc, _⟩ := hT.row hs
      cases d <;> simp [chkKind] at hk
      rename_i fields
      have hpl : ∀ k : Nat, (fields.toList.map fun f => (f.offset, ((P.info? f.type).map (·.size)).getD 0))[k]? = (match nth fs k with | some (o, _, n) => some (o, n) | none => none) := fun k => by
        rw [nth_eq, ← hk.1]
        simp only [List.getElem?_map]
        cases fields.toList[k]? <;> rfl
      obtain ⟨c, hc, rfl⟩ := parts_eq (fun k o n hkn => by
        rw [nth_eq] at hkn
        split at hkn
        · rename_i o' t' n' hn
          simp at hkn
          have := hk.2 _ _ _ (List.mem_of_getElem? hn)
          omega
        · cases hkn) _ _ _ h ρ hops
      have hplaces : (fields.mapM fun f => do pure (f.offset, ← Go.sizeOf f.type) : Sem (Array (Nat × Nat))).run P w = .ok ((fields.toList.map fun f => (f.offset, ((P.info? f.type).map (·.size)).getD 0)).toArray) w := by
        refine mapM_sizes P w fields fun f hf => ?_
        have := hk.2 f.offset f.type (((P.info? f.type).map (·.size)).getD 0) (by rw [← hk.1]; exact List.mem_map.2 ⟨f, by simpa using hf, rfl⟩)
        cases hfi : P.info? f.type with
        | none => simp [hfi] at this
        | some i => exact ⟨i, rfl⟩
      have hz1 : (zeroValue t).run P w = .ok z w := by simp [zeroValue, typeInfo, hi, hz, go_sem]
      have hu : (underlying t).run P w = .ok (.struct fields) w := by simp [underlying, hd, go_sem]
      have hfill : Instr.fill (fun k => (fields.toList.map fun f => (f.offset, ((P.info? f.type).map (·.size)).getD 0)).toArray[k]?) z.cells (ps.map fun (x : Nat × Operand) => (x.1, ρ x.2)).toList = some c := by
        rw [hmap, ← hc]
        congr 1
        · funext k; rw [List.getElem?_toArray]; exact hpl k
        · rw [← Array.toList_inj]; exact hzc
      have hb : (Instr.build t (ps.map fun (x : Nat × Operand) => (x.1, ρ x.2))).run P w = .ok (.agg c) w := by
        unfold Instr.build
        simp only [Sem.run_bind, hz1, Result.andThen, hu, hplaces, hfill]
        rfl
      simp only [execOp, Sem.run_bind, hb, Result.andThen]; rfl
    · rename_i nn el _ _ zero hs
      obtain ⟨i, d, z, hi, hd, _, _, hk, hz, hzc, _⟩ := hT.row hs
      cases d <;> simp [chkKind] at hk
      obtain ⟨rfl, rfl⟩ := hk
      split at h
      · rename_i r hr
        cases hb0 : Nat.beq r.size 0 with
        | true => simp [hb0] at h
        | false =>
          simp only [hb0, cond_false] at h
          have hpos : 0 < r.size := by have := Nat.ne_of_beq_eq_false hb0; omega
          obtain ⟨c, hc, rfl⟩ := parts_eq (fun k o n hkn => by simp at hkn; omega) _ _ _ h ρ hops
          have hz1 : (zeroValue t).run P w = .ok z w := by simp [zeroValue, typeInfo, hi, hz, go_sem]
          have hu : (underlying t).run P w = .ok (.array nn el) w := by simp [underlying, hd, go_sem]
          have hsz := hT.sizeOf hr w
          have hfill : Instr.fill (fun i => some (i * r.size, r.size)) z.cells (ps.map fun (x : Nat × Operand) => (x.1, ρ x.2)).toList = some c := by
            rw [hmap, ← hc]
            congr 1
            rw [← Array.toList_inj]; exact hzc
          have hb : (Instr.build t (ps.map fun (x : Nat × Operand) => (x.1, ρ x.2))).run P w = .ok (.agg c) w := by
            unfold Instr.build
            simp only [Sem.run_bind, hz1, Result.andThen, hu, hsz, hfill]
            rfl
          simp only [execOp, Sem.run_bind, hb, Result.andThen]; rfl
      · cases h
    · cases h
  case extract x i =>
    split at h
    · rename_i vs hx
      have h1 := hev x (by simp [Op.operands]) _ hx
      rw [nth_eq] at h
      simp at h
      simp [execOp, h1, Instr.extract, h, go_sem]
    · cases h
  case makeFunc fn first cap =>
    obtain ⟨fs, _, h2, h3⟩ := evs_eq _ _ _ h
    obtain ⟨cs, _, h4, h5⟩ := evs_eq _ _ _ h2
    have e1 := h3 ρ fun x hx => hev x (by simp [Op.operands]; exact .inl (by simpa using hx))
    have e2 := h5 ρ fun x hx => hev x (by simp [Op.operands]; exact .inr (by simpa using hx))
    simp at h4; subst h4
    have e3 : first.map ρ = fs.toArray := by rw [← Array.toList_inj]; simpa using e1
    have e4 : cap.map ρ = cs.toArray := by rw [← Array.toList_inj]; simpa using e2
    simp [execOp, Instr.makeFunc, e3, e4, go_sem]
end
end Go.Proofs.YtijaglinajfplaaGreatDoor
