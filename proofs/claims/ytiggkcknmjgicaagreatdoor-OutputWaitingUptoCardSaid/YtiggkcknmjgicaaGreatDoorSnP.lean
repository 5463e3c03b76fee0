/-
  What the statements' sends of layer 39 does, without a program.
  Conditions: none beyond those that each theorem states.
-/
import Derived.Test.YtiggkcknmjgicaaGreatDoorMF
import Derived.Test.YtiggkcknmjgicaaGreatDoorMG
set_option maxRecDepth 10000
namespace Go.Proofs.YtiggkcknmjgicaaGreatDoor
open Go.RowKit

def m39 : List ByteArray := [⟨#[49]⟩, ⟨#[49, 48]⟩, ⟨#[50]⟩, ⟨#[50, 46, 49]⟩, ⟨#[]⟩]
def mk39 (k : Nat) : ByteArray := m39.getD k ⟨#[]⟩
theorem m39_get {k : Nat} (h : k < 5) : m39[k]? = some (mk39 k) := by
  have h5 : m39.length = 5 := rfl
  unfold mk39
  rw [List.getD_eq_getElem?_getD, List.getElem?_eq_getElem (by omega)]; rfl
theorem mk39_inj : ∀ k j : Fin 5, mk39 k.val = mk39 j.val → k = j := by decide
theorem mk39_size : ∀ k : Fin 5, (mk39 k.val).size ≤ 3 := by decide
theorem mk39_ne9 : ∀ k : Fin 5, mk39 k.val ≠ ⟨#[57]⟩ := by decide
theorem mk39_valid : ∀ k : Fin 5, lvalid (mk39 k.val).data.toList = true := by
  have h0 : lvalid [] = true := by simp [lvalid, lparts]
  have h1 : lvalid [49] = true := by
    have h := (prts_step [49] 0 0 (by simp)).2.2.2
    rw [show ffirst (([49] : List UInt8).drop 0) 0 0 = (⟨1, 0, 0⟩, 1) from rfl] at h
    simp at h
    simp [lvalid, lparts, h]
  have h2 : lvalid [49, 48] = true := by
    have h := (prts_step [49, 48] 0 0 (by simp)).2.2.2
    rw [show ffirst (([49, 48] : List UInt8).drop 0) 0 0 = (⟨10, 0, 0⟩, 2) from rfl] at h
    simp at h
    simp [lvalid, lparts, h]
  have h3 : lvalid [50] = true := by
    have h := (prts_step [50] 0 0 (by simp)).2.2.2
    rw [show ffirst (([50] : List UInt8).drop 0) 0 0 = (⟨2, 0, 0⟩, 1) from rfl] at h
    simp at h
    simp [lvalid, lparts, h]
  have h4 : lvalid [50, 46, 49] = true := by
    have h := (prts_step [50, 46, 49] 0 0 (by simp)).2.2.2
    rw [show ffirst (([50, 46, 49] : List UInt8).drop 0) 0 0 = (⟨2, 0, 0⟩, 1) from rfl] at h
    have h2 := (prts_step [50, 46, 49] 2 1 (by simp)).2.2.2
    rw [show ffirst (([50, 46, 49] : List UInt8).drop 2) 2 1 = (⟨1, 2, 0⟩, 3) from rfl] at h2
    simp at h h2
    simp [lvalid, lparts, h, h2]
  intro k
  match k with
  | 0 => exact h1
  | 1 => exact h2
  | 2 => exact h3
  | 3 => exact h4
  | 4 => exact h0

/-- What is to be sent. -/
structure Sn where
  by_ : UInt8
  tk : Int
  o : Ou
def Sn.k (x : Sn) : Nat := x.by_.toNat % 5
theorem Sn.k5 (x : Sn) : x.k < 5 := Nat.mod_lt _ (by omega)
def errS (x : Sn) : Int := if ochk (shO x.o) ≠ 0 then ochk (shO x.o) else if 0 ≤ x.tk ∧ x.tk ≤ 1073741824 then 0 else 2
structure SS where
  es : Al
  cn : List Nat
  all : List En
def ctK (n : Nat) : Ct := ⟨0, n, 0⟩
def SS.n (s : SS) (k : Nat) : Nat := s.cn.getD k 0
def entS (s : SS) (x : Sn) : En := ⟨mk39 x.k, s.n x.k, x.tk, shO x.o⟩
def chS (s : SS) (x : Sn) : List Ch := snt (mk39 x.k) (ctK (s.n x.k)) x.tk (shO x.o)
def sStep (s : SS) (x : Sn) : SS := if errS x = 0 then ⟨applyE s.es (vwr (chS s x)), s.cn.set x.k (s.n x.k + 1), s.all ++ [entS s x]⟩ else s
def SS.z : SS := ⟨[], [0, 0, 0, 0, 0], []⟩
def sRun (l : List Sn) : SS := l.foldl sStep SS.z
theorem sRun_snoc (l : List Sn) (x : Sn) : sRun (l ++ [x]) = sStep (sRun l) x := by simp [sRun]
def nmE (e : En) : Nm := onm e.who e.nu e.tk

theorem srt_applyE : ∀ (l : List Ch) (es : Al), Srt es → Srt (applyE es l)
  | [], _, h => h
  | c :: l, es, h => srt_applyE l _ (srt_ins c.nm c.val es h)

theorem mset_le {α β : Type} [DecidableEq α] (a : α) (v : β) : ∀ m : List (α × β), (mset a v m).length ≤ m.length + 1
  | [] => by simp [mset]
  | (b, u) :: m => by
    have ih := mset_le a v m
    unfold mset
    split <;> simp <;> omega
theorem lastL_le (cs : List Ch) : (lastL cs).length ≤ cs.length := by
  refine snoc_ind (P := fun cs => (lastL cs).length ≤ cs.length) (by simp [lastL, lastG]) (fun cs c ih => ?_) cs
  rw [lastL_snoc]
  have := mset_le c.nm cs.length (lastL cs)
  simp; omega
/-- What holds of the state behind some sends. -/
structure SOk (s : SS) : Prop where
  cl : s.cn.length = 5
  srt : Srt s.es
  el : s.es.length ≤ 2 * s.all.length
  ct : ∀ k, k < 5 → getO (cnm (mk39 k)) s.es = if s.n k = 0 then none else some (cvl (ctK (s.n k)))
  cb : ∀ k, s.n k ≤ s.all.length
  ou : ∀ n v, n.kind = 18 → (getO n s.es = some v ↔ ∃ e ∈ s.all, n = nmE e ∧ v = oencS e.o)
  al : ∀ e ∈ s.all, ochk e.o = 0 ∧ (0 ≤ e.tk ∧ e.tk ≤ 1073741824) ∧ ∃ k, k < 5 ∧ e.who = mk39 k ∧ ∃ m : Nat, e.nu = m ∧ m < s.n k
  nd : (s.all.map nmE).Nodup
theorem sok_z : SOk SS.z where
  cl := rfl
  srt := List.Pairwise.nil
  el := by simp [SS.z]
  ct := fun k hk => by
    have : SS.z.n k = 0 := by
      unfold SS.n SS.z
      match k, hk with
      | 0, _ => rfl
      | 1, _ => rfl
      | 2, _ => rfl
      | 3, _ => rfl
      | 4, _ => rfl
    rw [this]; rfl
  cb := fun k => by
    have : SS.z.n k = 0 := by
      unfold SS.n SS.z
      match k with
      | 0 => rfl
      | 1 => rfl
      | 2 => rfl
      | 3 => rfl
      | 4 => rfl
      | k + 5 => rfl
    rw [this]; exact Nat.zero_le _
  ou := fun n v hn => by simp [SS.z, getO]
  al := fun e he => by simp [SS.z] at he
  nd := by simp [SS.z]
theorem set_n {s : SS} (h : s.cn.length = 5) {k j : Nat} {m : Nat} (hk : k < 5) : (s.cn.set k m).getD j 0 = if j = k then m else s.cn.getD j 0 := by
  rw [List.getD_eq_getElem?_getD, List.getD_eq_getElem?_getD, List.getElem?_set]
  by_cases hj : j = k
  · subst hj; simp [h, hk]
  · rw [if_neg (fun h => hj h.symm), if_neg hj]
theorem errS_zero {x : Sn} (h : errS x = 0) : ochk (shO x.o) = 0 ∧ 0 ≤ x.tk ∧ x.tk ≤ 1073741824 := by
  unfold errS at h
  split at h
  · rename_i h0; exact absurd h h0
  · rename_i h0
    split at h
    · rename_i h1; exact ⟨by omega, h1.1, h1.2⟩
    · omega
theorem vcall_chS (s : SS) (x : Sn) (n : Nm) : vcall (chS s x) n = if cnm (mk39 x.k) = n then some ⟨cnm (mk39 x.k), cvl (ctK (s.n x.k + 1)), false⟩ else if nmE (entS s x) = n then some ⟨nmE (entS s x), oencS (shO x.o), false⟩ else none := by
  have e : chS s x = ([] ++ [⟨nmE (entS s x), oencS (shO x.o), false⟩]) ++ [⟨cnm (mk39 x.k), cvl (ctK (s.n x.k + 1)), false⟩] := rfl
  rw [e, vcall_snoc, vcall_snoc]
  rfl
theorem sok_step {s : SS} (h : SOk s) (x : Sn) : SOk (sStep s x) := by
  unfold sStep
  by_cases h0 : errS x = 0
  · rw [if_pos h0]
    obtain ⟨g1, g2, g3⟩ := errS_zero h0
    have hk := x.k5
    have hN : ∀ j, SS.n ⟨applyE s.es (vwr (chS s x)), s.cn.set x.k (s.n x.k + 1), s.all ++ [entS s x]⟩ j = if j = x.k then s.n x.k + 1 else s.n j := fun j => set_n h.cl hk
    have hG := fun n => getO_after s.es (chS s x) n
    have hnew : ∀ e ∈ s.all, nmE e ≠ nmE (entS s x) := fun e he hh => by
      obtain ⟨_, _, k, hk5, hw, m, hm1, hm2⟩ := h.al e he
      have h1 : e.who = mk39 x.k := congrArg Nm.owner hh
      have h2 : e.nu = (s.n x.k : Int) := congrArg Nm.number hh
      have h3 : k = x.k := by
        have := mk39_inj ⟨k, hk5⟩ ⟨x.k, hk⟩ (hw.symm.trans h1)
        exact congrArg Fin.val this
      subst h3
      omega
    refine ⟨by simp [h.cl], srt_applyE _ _ h.srt, ?_, fun j hj => ?_, fun j => ?_, fun n v hn => ?_, fun e he => ?_, ?_⟩
    · have h1 := applyE_len s.es (vwr (chS s x))
      rw [vwr_len] at h1
      have h2 : (lastL (chS s x)).length ≤ (chS s x).length := lastL_le _
      have h3 : (chS s x).length = 2 := rfl
      have h4 := h.el
      show (applyE s.es (vwr (chS s x))).length ≤ 2 * (s.all ++ [entS s x]).length
      simp only [List.length_append, List.length_cons, List.length_nil]; omega
    · rw [hN]
      show getO _ (applyE s.es (vwr (chS s x))) = _
      rw [hG, vcall_chS]
      by_cases hjk : j = x.k
      · subst hjk
        rw [if_pos rfl, if_pos rfl, if_neg (by omega)]
      · have hne : cnm (mk39 x.k) ≠ cnm (mk39 j) := fun hh => hjk (by
          have := mk39_inj ⟨x.k, hk⟩ ⟨j, hj⟩ (congrArg Nm.owner hh)
          exact (congrArg Fin.val this).symm)
        have hne2 : nmE (entS s x) ≠ cnm (mk39 j) := fun hh => by
          have := congrArg Nm.kind hh
          simp [nmE, onm, cnm] at this
        rw [if_neg hne, if_neg hne2, if_neg hjk]
        exact h.ct j hj
    · rw [hN]
      have := h.cb j
      have := h.cb x.k
      show _ ≤ (s.all ++ [entS s x]).length
      simp only [List.length_append, List.length_cons, List.length_nil]
      split <;> omega
    · show getO n (applyE s.es (vwr (chS s x))) = some v ↔ _
      rw [hG, vcall_chS]
      have hne : cnm (mk39 x.k) ≠ n := fun hh => by rw [← hh] at hn; simp [cnm] at hn
      rw [if_neg hne]
      by_cases hn2 : nmE (entS s x) = n
      · rw [if_pos hn2]
        subst hn2
        constructor
        · intro hh
          exact ⟨entS s x, by simp, rfl, (Option.some.inj hh).symm⟩
        · rintro ⟨e, he, h1, h2⟩
          rcases List.mem_append.1 he with he | he
          · exact absurd h1.symm (hnew e he)
          · obtain rfl := List.mem_singleton.1 he
            rw [h2]; rfl
      · rw [if_neg hn2]
        refine (h.ou n v hn).trans ⟨fun ⟨e, he, h1⟩ => ⟨e, List.mem_append_left _ he, h1⟩, fun ⟨e, he, h1, h2⟩ => ?_⟩
        rcases List.mem_append.1 he with he | he
        · exact ⟨e, he, h1, h2⟩
        · obtain rfl := List.mem_singleton.1 he
          exact absurd h1.symm hn2
    · rcases List.mem_append.1 he with he | he
      · obtain ⟨a1, a2, k, a3, a4, m, a5, a6⟩ := h.al e he
        refine ⟨a1, a2, k, a3, a4, m, a5, ?_⟩
        rw [hN]
        split
        · rename_i hh; subst hh; omega
        · exact a6
      · obtain rfl := List.mem_singleton.1 he
        refine ⟨g1, ⟨g2, g3⟩, x.k, hk, rfl, s.n x.k, rfl, ?_⟩
        rw [hN, if_pos rfl]; omega
    · show ((s.all ++ [entS s x]).map nmE).Nodup
      rw [List.map_append, List.nodup_append]
      refine ⟨h.nd, by simp, ?_⟩
      rintro a ha b hb rfl
      obtain ⟨e, he, rfl⟩ := List.mem_map.1 ha
      simp at hb
      exact hnew e he hb
  · rw [if_neg h0]; exact h
theorem sok_run (l : List Sn) : SOk (sRun l) ∧ (sRun l).all.length ≤ l.length := by
  refine snoc_ind (P := fun l => SOk (sRun l) ∧ (sRun l).all.length ≤ l.length) ⟨sok_z, Nat.le_refl _⟩ (fun l x ih => ?_) l
  rw [sRun_snoc]
  refine ⟨sok_step ih.1 x, ?_⟩
  unfold sStep
  split
  · show ((sRun l).all ++ [_]).length ≤ _
    simp; exact ih.2
  · simp; have := ih.2; omega

/-- Two lists in strict order with the same elements are equal. -/
theorem sorted_ext {α : Type} {r : α → α → Prop} (hi : ∀ a, ¬ r a a) (ha : ∀ a b, r a b → ¬ r b a) : ∀ l l' : List α, l.Pairwise r → l'.Pairwise r → (∀ x, x ∈ l ↔ x ∈ l') → l = l'
  | [], [], _, _, _ => rfl
  | [], b :: l', _, _, h => by have := (h b).2 (by simp); simp at this
  | a :: l, [], _, _, h => by have := (h a).1 (by simp); simp at this
  | a :: l, b :: l', h1, h2, h => by
    rw [List.pairwise_cons] at h1 h2
    have hab : a = b := by
      rcases List.mem_cons.1 ((h a).1 (by simp)) with e | e
      · exact e
      · rcases List.mem_cons.1 ((h b).2 (by simp)) with e' | e'
        · exact e'.symm
        · exact absurd (h1.1 b e') (ha _ _ (h2.1 a e))
    subst hab
    refine congrArg (a :: ·) (sorted_ext hi ha l l' h1.2 h2.2 fun x => ⟨fun hx => ?_, fun hx => ?_⟩)
    · rcases List.mem_cons.1 ((h x).1 (List.mem_cons_of_mem _ hx)) with e | e
      · subst e; exact absurd (h1.1 x hx) (hi x)
      · exact e
    · rcases List.mem_cons.1 ((h x).2 (List.mem_cons_of_mem _ hx)) with e | e
      · subst e; exact absurd (h2.1 x hx) (hi x)
      · exact e
theorem nodup_le {α : Type} [DecidableEq α] : ∀ {l l' : List α}, l.Nodup → (∀ x ∈ l, x ∈ l') → l.length ≤ l'.length
  | [], _, _, _ => Nat.zero_le _
  | a :: l, l', h, hs => by
    rw [List.nodup_cons] at h
    have h1 : a ∈ l' := hs a (by simp)
    have h2 := nodup_le (l' := l'.erase a) h.2 fun x hx => (List.mem_erase_of_ne (fun e => h.1 (by rw [← e]; exact hx))).2 (hs x (by simp [hx]))
    rw [List.length_erase_of_mem h1] at h2
    have := List.length_pos_of_mem h1
    simp only [List.length_cons]; omega
def cmpE (a b : En) : Int := cmpO (nmE a) (nmE b)
theorem cmpE_w : Wk0 cmpE := ⟨fun x y h => by have := (cmpO_anti (nmE x) (nmE y)).1 h; unfold cmpE; omega, fun x y z h1 h2 => cmpO_le h1 h2⟩

theorem kn_srt {es : Al} (h : Srt es) (k : Int) : (kn es k).Pairwise fun a b => cmpO a b < 0 := by
  unfold kn
  exact List.pairwise_map.2 (List.Pairwise.filter _ h)
theorem getO_mem_iff {es : Al} (h : Srt es) (n : Nm) (v : ByteArray) : (n, v) ∈ es ↔ getO n es = some v := ⟨fun hx => getO_mem h hx, getO_some⟩
theorem kn_iff {es : Al} (h : Srt es) (k : Int) (n : Nm) : n ∈ kn es k ↔ n.kind = k ∧ ∃ v, getO n es = some v := by
  constructor
  · intro hn
    obtain ⟨h1, v, hv⟩ := kn_mem hn
    exact ⟨h1, v, (getO_mem_iff h n v).1 hv⟩
  · rintro ⟨h1, v, hv⟩
    unfold kn
    exact List.mem_map.2 ⟨(n, v), List.mem_filter.2 ⟨(getO_mem_iff h n v).2 hv, by simpa using h1⟩, rfl⟩
theorem entO_of {s : SS} (h : SOk s) {e : En} (he : e ∈ s.all) : entO s.es (nmE e) = some e := by
  have h1 := (h.ou (nmE e) (oencS e.o) rfl).2 ⟨e, he, rfl, rfl⟩
  rw [entO, h1]
  simp only [Option.getD_some, odec_enc (h.al e he).1, Option.map_some]
  rfl
theorem kn_all {s : SS} (h : SOk s) (n : Nm) : n ∈ kn s.es 18 ↔ ∃ e ∈ s.all, n = nmE e := by
  rw [kn_iff h.srt]
  constructor
  · rintro ⟨h1, v, hv⟩
    obtain ⟨e, he, h2, _⟩ := (h.ou n v h1).1 hv
    exact ⟨e, he, h2⟩
  · rintro ⟨e, he, rfl⟩
    exact ⟨rfl, _, (h.ou _ _ rfl).2 ⟨e, he, rfl, rfl⟩⟩
theorem allE_mem {s : SS} (h : SOk s) (e : En) : e ∈ allE s.es ↔ e ∈ s.all := by
  unfold allE allN
  rw [List.mem_filterMap]
  constructor
  · rintro ⟨n, hn, h2⟩
    obtain ⟨e', he', rfl⟩ := (kn_all h n).1 hn
    rw [entO_of h he'] at h2
    obtain rfl := Option.some.inj h2
    exact he'
  · intro he
    exact ⟨nmE e, (kn_all h _).2 ⟨e, he, rfl⟩, entO_of h he⟩
theorem entO_nm {es : Al} {n : Nm} {e : En} (hk : n.kind = 18) (ht : n.text = ⟨#[]⟩) (h : entO es n = some e) : nmE e = n := by
  unfold entO at h
  cases hd : odec ((getO n es).getD ⟨#[]⟩) with
  | none => rw [hd] at h; cases h
  | some o =>
    rw [hd] at h
    obtain rfl := Option.some.inj h
    obtain ⟨a, b, c, d, e⟩ := n
    subst hk ht
    rfl
theorem allE_srt {s : SS} (h : SOk s) : (allE s.es).Pairwise fun a b => cmpE a b < 0 := by
  have h1 := kn_srt h.srt 18
  have h2 : ∀ n ∈ kn s.es 18, n.kind = 18 ∧ n.text = ⟨#[]⟩ := fun n hn => by
    obtain ⟨e, _, rfl⟩ := (kn_all h n).1 hn
    exact ⟨rfl, rfl⟩
  unfold allE allN
  generalize kn s.es 18 = l at h1 h2
  induction l with
  | nil => exact List.Pairwise.nil
  | cons n l ih =>
    rw [List.pairwise_cons] at h1
    have ih' := ih h1.2 (fun m hm => h2 m (List.mem_cons_of_mem _ hm))
    rw [List.filterMap_cons]
    cases he : entO s.es n with
    | none => exact ih'
    | some e =>
      refine List.pairwise_cons.2 ⟨fun x hx => ?_, ih'⟩
      obtain ⟨m, hm, hx2⟩ := List.mem_filterMap.1 hx
      have e1 := entO_nm (h2 n (by simp)).1 (h2 n (by simp)).2 he
      have e2 := entO_nm (h2 m (List.mem_cons_of_mem _ hm)).1 (h2 m (List.mem_cons_of_mem _ hm)).2 hx2
      unfold cmpE
      rw [e1, e2]
      exact h1.1 m hm
theorem srd_strict {l : List En} (h : Srd cmpE l) (hn : (l.map nmE).Nodup) : l.Pairwise fun a b => cmpE a b < 0 := by
  unfold Srd at h
  induction l with
  | nil => exact List.Pairwise.nil
  | cons a l ih =>
    rw [List.pairwise_cons] at h
    rw [List.map_cons, List.nodup_cons] at hn
    refine List.pairwise_cons.2 ⟨fun b hb => ?_, ih h.2 hn.2⟩
    have h1 := h.1 b hb
    have h2 : nmE a ≠ nmE b := fun e => hn.1 (List.mem_map.2 ⟨b, hb, e.symm⟩)
    have h3 : cmpO (nmE a) (nmE b) ≠ 0 := fun e => h2 ((cmpO_eq _ _).1 e)
    have h4 := cmpO_anti (nmE b) (nmE a)
    unfold cmpE at h1 ⊢
    omega
/-- The outputs of the state are those that were sent, sorted. -/
theorem allE_eq {s : SS} (h : SOk s) {l : List En} (hp : l.Perm s.all) (hs : Srd cmpE l) : allE s.es = l := by
  refine sorted_ext (r := fun a b => cmpE a b < 0) (fun a => cmpE_w.i a) (fun a b => cmpE_w.a a b) _ _ (allE_srt h) (srd_strict hs ((hp.map nmE).nodup_iff.2 h.nd)) fun x => ?_
  rw [allE_mem h, hp.mem_iff]

theorem allE_len {s : SS} (h : SOk s) : (allE s.es).length = s.all.length := by
  have h1 : (allE s.es).Nodup := (allE_srt h).imp fun {a b} h e => by subst e; exact cmpE_w.i a h
  have h2 : s.all.Nodup := (List.pairwise_map.1 h.nd).imp fun {a b} hab e => hab (by rw [e])
  exact Nat.le_antisymm (nodup_le h1 fun x hx => (allE_mem h x).1 hx) (nodup_le h2 fun x hx => (allE_mem h x).2 hx)
/-! ### One more name -/
theorem insN_mem (a : Nm) : ∀ (l : List Nm) (x : Nm), x ∈ insN a l → x = a ∨ x ∈ l
  | [], x, h => .inl (by simpa [insN] using h)
  | b :: l, x, h => by
    unfold insN at h
    split at h
    · rcases List.mem_cons.1 h with h | h
      · exact .inl h
      · exact .inr h
    · split at h
      · rcases List.mem_cons.1 h with h | h
        · exact .inr (by simp [h])
        · rcases insN_mem a l x h with h | h
          · exact .inl h
          · exact .inr (by simp [h])
      · rcases List.mem_cons.1 h with h | h
        · exact .inl h
        · exact .inr (by simp [h])
theorem insN_fm {f : Nm → Option En} {a : Nm} : ∀ {l : List Nm}, a ∉ l → (f a = none → (insN a l).filterMap f = l.filterMap f) ∧ ((f a).isSome → ((insN a l).filterMap f).length = (l.filterMap f).length + 1)
  | [], _ => by
    constructor
    · intro h; simp [insN, h]
    · intro h
      obtain ⟨e, he⟩ := Option.isSome_iff_exists.1 h
      simp [insN, he]
  | b :: l, hn => by
    have hab : a ≠ b := fun e => hn (by simp [e])
    have ih := insN_fm (f := f) (a := a) (l := l) (fun h => hn (by simp [h]))
    have h0 : cmpO a b ≠ 0 := fun e => hab ((cmpO_eq a b).1 e)
    unfold insN
    by_cases h1 : cmpO a b < 0
    · rw [if_pos h1]
      constructor
      · intro h; rw [List.filterMap_cons, h]
      · intro h
        obtain ⟨e, he⟩ := Option.isSome_iff_exists.1 h
        rw [List.filterMap_cons, he]; simp
    · rw [if_neg h1, if_pos (by omega)]
      constructor
      · intro h; rw [List.filterMap_cons, List.filterMap_cons, ih.1 h]
      · intro h
        rw [List.filterMap_cons, List.filterMap_cons]
        cases f b <;> simp [ih.2 h]
def n9 : Nm := onm ⟨#[57]⟩ 0 0
theorem all_n9 {s : SS} (h : SOk s) (v : ByteArray) : (odec v = none → allE (insO n9 v s.es) = allE s.es) ∧ ((odec v).isSome → (allE (insO n9 v s.es)).length = (allE s.es).length + 1) := by
  have hn : n9 ∉ kn s.es 18 := fun hn => by
    obtain ⟨e, he, h1⟩ := (kn_all h n9).1 hn
    obtain ⟨_, _, k, hk, hw, _⟩ := h.al e he
    have h2 : (⟨#[57]⟩ : ByteArray) = e.who := congrArg Nm.owner h1
    exact mk39_ne9 ⟨k, hk⟩ (hw.symm.trans h2.symm)
  have hf : (kn s.es 18).filterMap (entO (insO n9 v s.es)) = (kn s.es 18).filterMap (entO s.es) := filterMap_eq fun x hx => entO_ins v s.es fun e => hn (e ▸ hx)
  have hv : entO (insO n9 v s.es) n9 = (odec v).map fun o => ⟨⟨#[57]⟩, 0, 0, o⟩ := by
    rw [entO, getO_ins, if_pos rfl]; rfl
  have hm := insN_fm (f := entO (insO n9 v s.es)) hn
  unfold allE allN
  rw [kn_ins n9 v 18 s.es h.srt, if_pos (show n9.kind = 18 from rfl)]
  rw [hf] at hm
  exact ⟨fun h0 => hm.1 (by rw [hv, h0]; rfl), fun h0 => hm.2 (by rw [hv]; simpa using h0)⟩
end Go.Proofs.YtiggkcknmjgicaaGreatDoor
