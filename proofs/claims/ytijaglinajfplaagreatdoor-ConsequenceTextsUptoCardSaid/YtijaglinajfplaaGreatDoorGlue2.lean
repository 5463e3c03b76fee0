/-
  Slices of plain data as arguments: the fact that they lie in memory, and that they read the same later.
  Conditions: none beyond those that each theorem states.
-/
import Derived.Test.YtijaglinajfplaaGreatDoorGlue
set_option maxRecDepth 10000
namespace Go.Proofs.YtijaglinajfplaaGreatDoor
open Go.RowKit Go.ChangeShapes Go.WideShapes Go.ChangeAt

theorem cells_at {W : World} {a : Addr} {n : Nat} {cs : List Value} (h : W.cells? 0 a n = some cs) (hn : 0 < n) :
    a.spot = none ∧ ∃ (c : Array Value) (fz : Nat × Nat × Nat), W.heap[a.block]? = some (.cells c fz.1 fz.2) ∧ cs.length = n ∧ ∀ j, j < n → c[a.off + j]? = cs[j]? := by
  unfold World.cells? at h
  rw [if_pos (Nat.zero_le _)] at h
  have hl : cs.length = n := by
    have : ∀ {α β : Type} {f : α → Option β} {l : List α} {r : List β}, l.mapM f = some r → r.length = l.length := fun {α β f} l => by
      induction l with
      | nil => intro r h; simp at h; subst h; rfl
      | cons x l ih =>
        intro r h
        rw [List.mapM_cons] at h
        simp only [Option.bind_eq_bind, Option.bind_eq_some_iff, Option.pure_def, Option.some.injEq] at h
        obtain ⟨y, _, ys, hys, rfl⟩ := h
        simp [ih hys]
    simpa using this h
  have hget : ∀ j, j < n → ∃ v, cs[j]? = some v ∧ W.cell? (a.add j) = some v := fun j hj => mapM_get h j j (by simp [hj])
  obtain ⟨v0, _, h0⟩ := hget 0 hn
  have ha0 : a.add 0 = a := by simp [Addr.add]
  rw [ha0] at h0
  unfold World.cell? at h0
  split at h0
  · rename_i c T fz hb
    split at h0
    · cases h0
    · rename_i hsp
      have hsp : a.spot = none := by simpa using hsp
      refine ⟨hsp, c, (T, fz), hb, hl, fun j hj => ?_⟩
      obtain ⟨v, hv1, hv2⟩ := hget j hj
      rw [hv1]
      obtain ⟨ab, ao, asp⟩ := a
      dsimp only at hsp hb ⊢
      subst hsp
      rw [add_add rfl] at hv2
      unfold World.cell? at hv2
      dsimp only at hv2
      rw [hb] at hv2
      simpa using hv2
  · cases h0

theorem Kept.cell {W W' : World} (h : Kept W W') {a : Addr} {v : Value} (hc : W.cell? a = some v) : W'.cell? a = some v := by
  unfold World.cell? at hc ⊢
  split at hc
  · rename_i c T fz hb
    rw [h.heap _ _ hb]
    exact hc
  · cases hc
theorem Kept.cells {W W' : World} (h : Kept W W') {a : Addr} {n : Nat} {cs : List Value} (hc : W.cells? 0 a n = some cs) : W'.cells? 0 a n = some cs := by
  unfold World.cells? at hc ⊢
  rw [if_pos (Nat.zero_le _)] at hc ⊢
  exact mapM_same (fun i _ x hx => h.cell hx) hc

variable {H : Type} {enc : TypeId × Value → H} {P : Program}

theorem bulkAll_len : ∀ (l : List (DataW H)), l.length ≤ Rows.uptoBulkAll l
  | [] => by simp [Rows.uptoBulkAll]
  | d :: l => by
    have := bulkAll_len l
    have h1 : 1 ≤ Rows.uptoBulk d := by
      cases d with
      | lit x => cases x <;> simp only [Rows.uptoBulk] <;> omega
      | _ => simp only [Rows.uptoBulk]; omega
    simp only [Rows.uptoBulkAll, List.length_cons]; omega

theorem choose_list {α : Type} {p : Nat → α → Prop} : ∀ (n : Nat), (∀ i, i < n → ∃ y, p i y) → ∃ es : List α, es.length = n ∧ ∀ i y, es[i]? = some y → p i y
  | 0, _ => ⟨[], rfl, by simp⟩
  | n + 1, h => by
    obtain ⟨es, hl, he⟩ := choose_list n fun i hi => h i (by omega)
    obtain ⟨y, hy⟩ := h n (by omega)
    refine ⟨es ++ [y], by simp [hl], fun i z hz => ?_⟩
    by_cases hi : i < n
    · exact he i z (by rwa [List.getElem?_append_left (by omega)] at hz)
    · rw [List.getElem?_append_right (by omega)] at hz
      have h0 : i - es.length = 0 := by
        have := (List.getElem?_eq_some_iff.1 hz).1
        simp at this; omega
      rw [h0] at hz
      simp at hz
      subst hz
      rw [show i = n by omega]; exact hy
theorem drop_flat {α : Type} {fa : α → List Value} {sz : Nat} (hsz : ∀ e, (fa e).length = sz) (l : List Value) : ∀ (es : List α) (off : Nat), (∀ i e, es[i]? = some e → ∀ j, j < sz → l[off + i * sz + j]? = (fa e)[j]?) → l.drop off = es.flatMap fa ++ l.drop (off + es.length * sz)
  | [], off, _ => by simp
  | e :: es, off, h => by
    have h1 : (l.drop off).take sz = fa e := by
      apply List.ext_getElem?
      intro j
      rw [List.getElem?_take, List.getElem?_drop]
      split
      · rename_i hj
        have := h 0 e rfl j hj
        simpa using this
      · rename_i hj
        rw [List.getElem?_eq_none (by rw [hsz]; omega)]
    have ih := drop_flat hsz l es (off + sz) fun i e' he j hj => by
      have := h (i + 1) e' (by simpa using he) j hj
      rw [← this]; congr 1; rw [Nat.add_mul]; omega
    rw [← List.take_append_drop sz (l.drop off), h1, List.drop_drop, ih, List.flatMap_cons, List.append_assoc, List.length_cons]
    congr 3; rw [Nat.add_mul]; omega
theorem mapM_len {α β : Type} {f : α → Option β} {l : List α} : ∀ {r : List β}, l.mapM f = some r → r.length = l.length := by
  induction l with
  | nil => intro r h; simp at h; subst h; rfl
  | cons x l ih =>
    intro r h
    rw [List.mapM_cons] at h
    simp only [Option.bind_eq_bind, Option.bind_eq_some_iff, Option.pure_def, Option.some.injEq] at h
    obtain ⟨y, _, ys, hys, rfl⟩ := h
    simp [ih hys]

/-- A slice of plain data among the arguments. -/
theorem open_sl {α : Type} {fa : α → List Value} {Q : α → Nat → Prop} {t e k : Nat} {W : World} {base : Nat} {v : Value} {d : DataW H} {p : List MemPlace} (T : Nat) (hu : P.underlying t = some (.slice e)) (hpl : plainT P k e = true) (hc0 : 0 < P.cellsOf e) (hsz : ∀ y, (fa y).length = P.cellsOf e)
    (hopen : ∀ (n : Nat) (cs : List Value) (x : DataW H × List MemPlace), DataW.trod enc P W 0 (fun _ => true) true n e cs = some x → ∃ y, cs = fa y ∧ Q y (Rows.uptoBulk x.1)) (hmono : ∀ y M M', Q y M → M ≤ M' → Q y M')
    (hv : Value.okWide P W .any base t v) (h : DataW.Trod enc P W 0 (fun _ => true) true t v d p) :
    ∃ (o : Option Addr) (cap : Nat) (es : List α), v = .slice o es.length cap ∧ (Sl T fa o cap es).p (fun b => W.heap[b]?) ∧ es.length ≤ Rows.uptoBulk d ∧ (∀ y ∈ es, Q y (Rows.uptoBulk d)) ∧
      ∀ (W' : World) (sp : Nat → Bool), Kept W W' → (∀ b < W.heap.size, sp b = true) → DataW.Trod enc P W' 0 sp true t v d p := by
  obtain ⟨a, len, cap, rfl⟩ := okWide_slice hu hv
  obtain ⟨n, hn⟩ := h
  cases n with
  | zero => simp [DataW.trod] at hn
  | succ n =>
    have hcl : (Value.slice a len cap).cells.toList = [.slice a len cap] := rfl
    rw [hcl] at hn
    cases a with
    | none =>
      have h0 : len = 0 ∧ cap = 0 := by
        unfold DataW.trod at hn
        rw [hu] at hn
        split at hn <;> simp_all
      obtain ⟨rfl, rfl⟩ := h0
      have hd : d = .nil ∧ p = [] := by
        simp [DataW.trod, hu] at hn
        exact ⟨hn.1.symm, hn.2⟩
      obtain ⟨rfl, rfl⟩ := hd
      exact ⟨none, 0, [], rfl, ⟨by simp, .inl rfl⟩, by simp, by simp, fun W' sp _ _ => ⟨n + 1, by rw [hcl]; simp [DataW.trod, hu]⟩⟩
    | some a =>
      simp only [DataW.trod, hu] at hn
      split at hn
      · rename_i hb
        simp only [Option.bind_eq_some_iff, if_true, Option.map_eq_some_iff] at hn
        obtain ⟨elems, he, rest, hr, hx⟩ := hn
        simp only [Prod.mk.injEq] at hx
        obtain ⟨rfl, rfl⟩ := hx
        have hle := mapM_len he
        rw [List.length_range] at hle
        have hbulk : ∀ x ∈ elems, Rows.uptoBulk x.1 ≤ Rows.uptoBulk (DataW.slice (elems.map (·.1)) (rest.map (·.1))) := fun x hx => by
          have := bulk_mem (List.mem_map.2 ⟨x, hx, rfl⟩ : x.1 ∈ elems.map (·.1))
          simp only [Rows.uptoBulk]; omega
        obtain ⟨es, hel, hes⟩ := choose_list (p := fun i y => ∃ x, x ∈ elems ∧ W.cells? 0 (a.add (i * P.cellsOf e)) (P.cellsOf e) = some (fa y) ∧ Q y (Rows.uptoBulk x.1)) len fun i hi => by
          obtain ⟨x, hx1, hx2⟩ := mapM_get he i i (by simp [hi])
          simp only [Option.bind_eq_some_iff] at hx2
          obtain ⟨cs, hcs, htr⟩ := hx2
          obtain ⟨y, rfl, hy⟩ := hopen n cs x htr
          exact ⟨y, x, List.mem_of_getElem? hx1, hcs, hy⟩
        refine ⟨some a, cap, es, by rw [hel], ⟨by omega, ?_⟩, ?_, ?_, ?_⟩
        · by_cases hl0 : es = []
          · exact .inl hl0
          · right
            have hpos : 0 < es.length := List.length_pos_iff.2 hl0
            obtain ⟨x0, _, hc1, _⟩ := hes 0 es[0] (List.getElem?_eq_getElem hpos)
            have ha0 : a.add (0 * P.cellsOf e) = a := by simp [Addr.add]
            rw [ha0] at hc1
            obtain ⟨hsp, c, fz, hblk, _, hcell⟩ := cells_at hc1 hc0
            obtain ⟨ab, ao, asp⟩ := a
            dsimp only at hsp hblk hcell
            subst hsp
            have hlt : ao < c.size := by
              have h1 := hcell 0 hc0
              have h2 : (fa es[0])[0]? ≠ none := by
                rw [List.getElem?_eq_getElem (by rw [hsz]; exact hc0)]; simp
              rw [← h1] at h2
              exact Nat.lt_of_not_le fun h => h2 (by simpa using Array.getElem?_eq_none_iff.2 h)
            have hdrop := drop_flat hsz c.toList es ao fun i y hy j hj => by
              obtain ⟨x, _, hci, _⟩ := hes i y hy
              rw [add_add rfl] at hci
              obtain ⟨_, c', fz', hblk', _, hcell'⟩ := cells_at hci hc0
              dsimp only at hblk' hcell'
              rw [hblk] at hblk'
              injection hblk' with hblk'
              injection hblk' with e1
              subst e1
              rw [← hcell' j hj]; simp
            refine ⟨ab, c, fz, c.toList.take ao, c.toList.drop (ao + es.length * P.cellsOf e), ?_, hblk, ?_⟩
            · rw [List.length_take, Nat.min_eq_left (by simpa using Nat.le_of_lt hlt)]
            · rw [← hdrop, List.take_append_drop]
        · have := bulkAll_len (elems.map (·.1))
          simp only [List.length_map] at this
          simp only [Rows.uptoBulk]; omega
        · intro y hy
          obtain ⟨i, hi, rfl⟩ := List.mem_iff_getElem.1 hy
          obtain ⟨x, hx, _, hq⟩ := hes i _ (List.getElem?_eq_getElem hi)
          exact hmono _ _ _ hq (hbulk x hx)
        · intro W' sp hk hsp
          have hel1 : ∀ i x, ((W.cells? 0 (a.add (i * P.cellsOf e)) (P.cellsOf e)).bind (DataW.trod enc P W 0 (fun _ => true) true n e)) = some x → ((W'.cells? 0 (a.add (i * P.cellsOf e)) (P.cellsOf e)).bind (DataW.trod enc P W' 0 sp true n e)) = some x := fun i x hx => by
            simp only [Option.bind_eq_some_iff] at hx ⊢
            obtain ⟨cs, hcs, htr⟩ := hx
            exact ⟨cs, hk.cells hcs, (trod_plain n _ _ W 0 _ _ _ _ hpl htr).2 W' 0 sp true⟩
          refine ⟨n + 1, ?_⟩
          rw [hcl]
          simp only [DataW.trod, hu]
          rw [if_pos hb]
          simp only [Option.bind_eq_some_iff, Option.map_eq_some_iff]
          refine ⟨elems, mapM_same (fun i _ x hx => hel1 i x hx) he, rest, ?_, rfl⟩
          by_cases hcap : cap = len
          · have hrest : rest = [] := by
              subst hcap
              simp at hr
              exact hr
            subst hrest
            subst hcap
            split <;> simp
          · have hlt : a.block < W.heap.size := by
              obtain ⟨x, _, hx2⟩ := mapM_get hr 0 0 (by rw [List.getElem?_range (by omega)])
              simp only [Option.bind_eq_some_iff] at hx2
              obtain ⟨cs, hcs, _⟩ := hx2
              obtain ⟨_, c, fz, hblk, _⟩ := cells_at hcs hc0
              have h1 := (Array.getElem?_eq_some_iff.1 hblk).1
              have h2 : (a.add ((len + 0) * P.cellsOf e)).block = a.block := by unfold Addr.add; split <;> rfl
              rwa [h2] at h1
            rw [if_pos (hsp _ hlt)]
            exact mapM_same (fun j _ x hx => hel1 (len + j) x hx) hr
      · cases hn
end Go.Proofs.YtijaglinajfplaaGreatDoor
