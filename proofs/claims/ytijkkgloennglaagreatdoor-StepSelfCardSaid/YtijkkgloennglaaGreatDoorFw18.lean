/-
  A law's contract by the abstract machine gives what the row asks. No condition.
-/
import Derived.Test.YtijkkgloennglaaGreatDoorFw17
import Derived.Carry
import Derived.ChangeSame
set_option linter.all false
namespace Go.Proofs.YtijkkgloennglaaGreatDoor.Ab
open Go Go.RowKit Go.ChangeShapes Go.WideShapes Go.Deep

/-- memory in which the listed variables alone are known -/
def startMem : List (Nat × List AV) → Tr
  | [] => .e
  | (g, as) :: r => Tr.set (g + 1) (startMem r) g (some ⟨false, .cells as⟩)
def startSt (gl : Nat) (L : List (Nat × List AV)) : St := ⟨gl, gl, startMem L⟩
theorem startMem_get : ∀ (L : List (Nat × List AV)) (b : Nat) (B : Blk), (startMem L).get b = some B → ∃ as, (b, as) ∈ L ∧ B = ⟨false, .cells as⟩
  | [], b, B, h => by simp [startMem, Tr.get] at h
  | (g, as) :: r, b, B, h => by
    unfold startMem at h
    rw [Tr.get_set _ _ _ _ _ (by omega)] at h
    split at h
    · rename_i e; subst e; cases h; exact ⟨as, by simp, rfl⟩
    · obtain ⟨as', h1, h2⟩ := startMem_get r b B h
      exact ⟨as', List.mem_cons_of_mem _ h1, h2⟩

def sizeAt (h : Array Obj) (g : Nat) : Nat := match h[g]? with | some (.cells c _ _) => c.size | _ => 0

theorem RelN.start {gl : Nat} {L : List (Nat × List AV)} {h : Array Obj} (hsz : gl ≤ h.size) (hL : ∀ g as, (g, as) ∈ L → g < gl ∧ ∃ (c : Array Value) (tt : TypeId) (fr : Nat × Nat), h[g]? = some (.cells c tt fr) ∧ ∀ μ, VL μ as c.toList) :
    RelN (fun g => if g < gl then some ⟨g, 0, sizeAt h g⟩ else none) (startSt gl L) h := by
  have hmu : ∀ b m, (if b < gl then some (⟨b, 0, sizeAt h b⟩ : Loc) else none) = some m → b < gl ∧ m = ⟨b, 0, sizeAt h b⟩ := fun b m hb => by
    split at hb
    · rename_i hlt; exact ⟨hlt, (Option.some.inj hb).symm⟩
    · cases hb
  have hno : ∀ b B, (startSt gl L).get b = some B → B.own = false := fun b B hb => by
    obtain ⟨as, _, rfl⟩ := startMem_get L b B hb; rfl
  refine ⟨⟨fun b m hm => ?_, fun b B m hb hm => ?_, fun b B m hb ho => ?_, fun b hb => ?_, Nat.le_refl _, fun g hg => ⟨sizeAt h g, if_pos (show g < gl from hg)⟩⟩, hno⟩
  · obtain ⟨h1, rfl⟩ := hmu b m hm
    exact ⟨h1, Nat.lt_of_lt_of_le h1 hsz⟩
  · obtain ⟨h1, rfl⟩ := hmu b m hm
    obtain ⟨as, h2, rfl⟩ := startMem_get L b B hb
    obtain ⟨_, c, tt, fr, h3, h4⟩ := hL b as h2
    have hl := forall₂_length (h4 fun g => if g < gl then some ⟨g, 0, sizeAt h g⟩ else none)
    simp only [Array.length_toList] at hl
    refine ⟨c, tt, fr, h3, by simp [sizeAt, h3], by simp [sizeAt, h3]; omega, fun i a hi => ?_, fun h => by cases h⟩
    obtain ⟨v, e, r⟩ := forall₂_get (h4 _) i a hi
    exact ⟨v, by simpa using e, r⟩
  · rw [hno b B hb] at ho; cases ho
  · cases hg : (startSt gl L).get b with
    | none => rfl
    | some B =>
      obtain ⟨as, h2, _⟩ := startMem_get L b B hg
      have := (hL b as h2).1
      exact absurd hb (by show ¬ gl ≤ b; omega)

/-- an argument's shape -/
def ArgSh (T : Tys) (s : St) (n : Nat) (t : TypeId) (x : TV) : Prop :=
  match T.at t with
  | some i => if i.agg then ∃ as, x = .agg as ∧ ShA T s n t as else ∃ a, x = .v a ∧ ShA T s n t [a]
  | none => False
def ArgsSh (T : Tys) (s : St) (n : Nat) : List TypeId → List TV → Prop
  | [], [] => True
  | t :: ts, x :: xs => ArgSh T s n t x ∧ ArgsSh T s n ts xs
  | _, _ => False
theorem ArgSh.mono {T : Tys} {s s' : St} (hn : s.next ≤ s'.next) (hk : ∀ b, b < s.next → s'.get b = s.get b) {n : Nat} {t : TypeId} {x : TV} (h : ArgSh T s n t x) : ArgSh T s' n t x := by
  unfold ArgSh at h ⊢
  split at h
  · split at h
    · rename_i hc; obtain ⟨as, h1, h2⟩ := h; rw [if_pos hc]; exact ⟨as, h1, ShA.mono hn hk h2⟩
    · rename_i hc; obtain ⟨as, h1, h2⟩ := h; rw [if_neg hc]; exact ⟨as, h1, ShA.mono hn hk h2⟩
  · exact h

section
variable {H : Type} {enc : TypeId × Value → H} {P : Program} {T : Tys}

theorem imp_arg (hT : tysB P T = true) {w : World} {n : Nat} {t : TypeId} {v : Value} {d : DataW H} {ps : List MemPlace} {b : Nat} (hs : suppT T n t = true) (hok : Value.okWide P w .any b t v) (h : DataW.Trod enc P w 0 (fun _ => true) true t v d ps) :
    ∀ (μ : Mu) (s : St), RelN μ s w.heap → ∃ μ' s' x, RelN μ' s' w.heap ∧ Ext μ s μ' s' ∧ VT μ' x v ∧ ArgSh T s' n t x := by
  intro μ s R
  obtain ⟨fuel, hf⟩ := h
  obtain ⟨μ1, s1, as, R1, E1, V1, S1⟩ := imp_trod hT n fuel t _ _ hs hf μ s R
  have hti : ∃ i, T.at t = some i := by
    cases n with
    | zero => simp [suppT] at hs
    | succ n => unfold suppT at hs; split at hs; exact ⟨_, by assumption⟩; cases hs
  obtain ⟨i, hi⟩ := hti
  obtain ⟨inf, dd, z, K⟩ := tysB_spec hT hi
  have hk := K.k
  by_cases ha : i.agg = true
  · refine ⟨μ1, s1, .agg as, R1, E1, ?_, by unfold ArgSh; rw [hi]; simp only [ha, if_true]; exact ⟨as, rfl, S1⟩⟩
    have : ∃ cs, v = .agg cs := by
      unfold Value.okWide at hok
      rw [K.und] at hok
      unfold TyI.agg at ha
      split at ha
      · rename_i fs hik; rw [hik] at hk; cases dd <;> simp [kB] at hk; obtain ⟨cs, h, _⟩ := hok; exact ⟨cs, h⟩
      · rename_i fs hik; rw [hik] at hk; cases dd <;> simp [kB] at hk; obtain ⟨cs, h, _⟩ := hok; exact ⟨cs, h⟩
      · cases ha
    obtain ⟨cs, rfl⟩ := this
    exact ⟨cs.toList, by simp, V1⟩
  · have hleaf : v.cells = #[v] := by
      have hna : ∀ cs, v ≠ .agg cs := by
        rintro cs rfl
        unfold Value.okWide at hok
        rw [K.und] at hok
        have hcell : Cell.okWide P w .any b t (.agg cs) → False := by
          unfold Cell.okWide Cell.ok
          rw [K.und]
          cases dd <;> simp
        cases dd with
        | struct gs => cases hik : i.k <;> rw [hik] at hk <;> simp [kB] at hk; exact ha (by unfold TyI.agg; rw [hik])
        | array m e => cases hik : i.k <;> rw [hik] at hk <;> simp [kB] at hk; exact ha (by unfold TyI.agg; rw [hik])
        | _ => exact hcell hok
      cases v <;> first | rfl | exact absurd rfl (hna _)
    rw [hleaf] at V1
    cases V1 with
    | cons h1 h2 =>
      cases h2
      exact ⟨μ1, s1, .v _, R1, E1, h1, by unfold ArgSh; rw [hi]; simp only [ha, Bool.false_eq_true, if_false]; exact ⟨_, rfl, S1⟩⟩

theorem imp_args (hT : tysB P T = true) {w : World} {n b : Nat} : ∀ (ts : List TypeId) (vs : List Value) (ds : List (DataW H)) (ps : List MemPlace), (∀ t ∈ ts, suppT T n t = true) → (∀ (j : Nat) t v, ts[j]? = some t → vs[j]? = some v → Value.okWide P w .any b t v) →
    DataW.TrodAll enc P w 0 (fun _ => true) true ts vs ds ps → ∀ (μ : Mu) (s : St), RelN μ s w.heap → ∃ μ' s' xs, RelN μ' s' w.heap ∧ Ext μ s μ' s' ∧ All2 (VT μ') xs vs ∧ ArgsSh T s' n ts xs
  | [], vs, ds, ps, _, _, h, μ, s, R => by
    obtain ⟨rfl, _, _⟩ := trodAll_nil h
    exact ⟨μ, s, [], R, .refl _ _, .nil, trivial⟩
  | t :: ts, vs, ds, ps, hs, hok, h, μ, s, R => by
    obtain ⟨v, vs', d, ds', p, q, rfl, rfl, rfl, h1, h2⟩ := trodAll_cons h
    obtain ⟨μ1, s1, x, R1, E1, V1, S1⟩ := imp_arg hT (hs t (by simp)) (hok 0 t v rfl rfl) h1 μ s R
    obtain ⟨μ2, s2, xs, R2, E2, V2, S2⟩ := imp_args hT ts vs' ds' q (fun t ht => hs t (List.mem_cons_of_mem _ ht)) (fun j t' v' hj hv => hok (j + 1) t' v' (by simpa using hj) (by simpa using hv)) h2 μ1 s1 R1
    exact ⟨μ2, s2, x :: xs, R2, E1.trans E2, .cons (V1.mono E2.mu) V2, S1.mono E2.next E2.keep, S2⟩

theorem trods_stay (hlo : laidOutB P = true) {W W' : World} (hb : Below W.heap.size W W') : ∀ (ts : List TypeId) (vs : List Value) (ds : List (DataW H)) (ps : List MemPlace), (∀ t ∈ ts, P.readableRec t = true ∧ t < P.types.size) → (∀ x ∈ ps, x.block < W.heap.size) →
    DataW.TrodAll enc P W 0 (fun _ => true) true ts vs ds ps → ∀ sp : Nat → Bool, (∀ x ∈ ps, sp x.block = true) → DataW.TrodAll enc P W' 0 sp true ts vs ds ps
  | [], vs, ds, ps, _, _, h, sp, _ => by
    obtain ⟨rfl, rfl, rfl⟩ := trodAll_nil h
    exact trodAll_mk0
  | t :: ts, vs, ds, ps, ht, hlt, h, sp, hsp => by
    obtain ⟨v, vs', d, ds', p, q, rfl, rfl, rfl, h1, h2⟩ := trodAll_cons h
    refine ⟨p, q, ?_, trods_stay hlo hb ts vs' ds' q (fun t' h' => ht t' (List.mem_cons_of_mem _ h')) (fun x hx => hlt x (List.mem_append_right _ hx)) h2 sp (fun x hx => hsp x (List.mem_append_right _ hx)), rfl⟩
    exact WideElems.Trod_stays hlo (ht t (by simp)).1 (ht t (by simp)).2 h1 (fun x hx => hb.same (hlt x (List.mem_append_left _ hx))) (fun x hx => hsp x (List.mem_append_left _ hx))

/-- THE LAW's CONTRACT: true, and nothing that came in has turned -/
theorem law_contract (hT : tysB P T = true) (hlo : laidOutB P = true) {f : FuncId} {fn : Func} {s : ChangeSpec} {n tb gl : Nat} {L : List (Nat × List AV)} {apart fresh handsOn again : Bool} (hvars : s.vars = []) (hspec : ∀ ds : List (DataW H), ds.length = fn.params.size → s.fn H ds = { results := [.lit (.bool true)], args := ds }) (hres : fn.resultTypes = #[tb]) (hb : P.underlying tb = some .bool)
    (hpar : ∀ t ∈ fn.params.toList, suppT T n t = true ∧ P.readableRec t = true ∧ t < P.types.size)
    (hac : ∀ (μ : Mu) (h : Array Obj) (st : St) (xs : List TV), RelN μ st h → Ext (fun g => if g < gl then some ⟨g, 0, sizeAt h g⟩ else none) (startSt gl L) μ st → ArgsSh T st n fn.params.toList xs → AC P f xs st (fun x _ => x = .v (.bool true)))
    {W : World} {base : Nat} {args : Array Value} {ds gs : List (DataW H)} {before : List MemPlace}
    (hval : ∀ (j : Nat) t v, fn.params[j]? = some t → args[j]? = some v → Value.okWide P W .any base t v) (hW : DataW.Whole enc P fn.params.toList s.vars apart W args.toList ds gs before)
    (hsz : gl ≤ W.heap.size) (hL : ∀ g as, (g, as) ∈ L → g < gl ∧ ∃ (c : Array Value) (tt : TypeId) (fr : Nat × Nat), W.heap[g]? = some (.cells c tt fr) ∧ ∀ μ, VL μ as c.toList) :
    Calls P f args W fun e W' => ∃ v, e = .returned v ∧ s.post enc P fn apart fresh handsOn again W args v W' := by
  have hW' := hW
  obtain ⟨p, q, hA, hV, rfl, hfz, hnd⟩ := hW
  rw [hvars] at hV
  obtain ⟨rfl, rfl⟩ := trodVars_none hV
  have hlt : ∀ x ∈ p ++ [], x.block < W.heap.size := fun x hx => hW'.lt x hx
  simp only [List.append_nil] at hlt hfz hnd hW'
  have hlen : ds.length = fn.params.size := by
    have : ∀ (ts : List TypeId) (vs : List Value) (ds : List (DataW H)) (ps : List MemPlace), DataW.TrodAll enc P W 0 (fun _ => true) true ts vs ds ps → ds.length = ts.length := by
      intro ts
      induction ts with
      | nil => intro vs ds ps h; obtain ⟨_, rfl, _⟩ := trodAll_nil h; rfl
      | cons t ts ih => intro vs ds ps h; obtain ⟨v, vs', d, ds', p, q, rfl, rfl, rfl, h1, h2⟩ := trodAll_cons h; simp [ih _ _ _ h2]
    simpa using this _ _ _ _ hA
  obtain ⟨μ1, s1, xs, R1, E1, V1, S1⟩ := imp_args hT fn.params.toList args.toList ds p (fun t ht => (hpar t ht).1) (fun j t v hj hv => hval j t v (by simpa using hj) (by simpa using hv)) hA _ _ (RelN.start hsz hL)
  have hcall := (hac μ1 W.heap s1 xs R1 E1 S1).2 W.heap.size μ1 W args.toList R1.rel V1
  rw [Array.toArray_toList] at hcall
  refine hcall.mono ?_
  rintro e W' ⟨v, x, s', μ', rfl, hx, rfl, hr, hg⟩
  cases hx
  have hbl := hg.below
  have hstay := trods_stay (enc := enc) hlo hbl fn.params.toList args.toList ds p (fun t ht => (hpar t ht).2) hlt hA
  have hsp : s.fn H (ds ++ []) = { results := [.lit (.bool true)], args := ds } := by rw [List.append_nil]; exact hspec ds hlen
  have hrl : (Value.bool true).resultList 1 = [.bool true] := rfl
  have hres' : ∀ (b : Nat) (sp : Nat → Bool) (hd : Bool), DataW.TrodAll enc P W' b sp hd fn.resultTypes.toList ((Value.bool true).resultList fn.resultTypes.size) [DataW.lit (.bool true)] [] := by
    intro b sp hd
    rw [hres]
    exact trodAll_cons_mk (shut_bool hb true) trodAll_mk0
  refine ⟨_, rfl, ds, [], p, [], p, [], hW', ?_, ?_, ?_, ?_, fun _ => ⟨ok_one hres hrl (okWide_bool_mk hb true), ?_⟩⟩
  · rw [hsp]; exact hres' _ _ _
  · rw [hsp]; exact hstay _ fun x hx => by simpa using hlt x hx
  · rw [hsp, hvars]; rfl
  · exact World.keptBut_mono (fun x hx => ⟨hx, .inr (.inl hx)⟩) (hbl.frame (· ∈ p))
  · refine ⟨[DataW.lit (.bool true)] ++ ds, [], [] ++ p, ⟨[] ++ p, [], trodAll_append (hstay _ fun _ _ => rfl) (hres' _ _ _), by rw [hvars]; rfl, by simp, ?_, ?_⟩, fun x hx _ => by simpa using hx⟩
    · intro b off hp
      have hin : MemPlace.cell b off ∈ p := by simpa using hp
      rw [hbl.frozen (hlt _ hin)]
      exact hfz b off hin
    · intro ha; simpa using hnd ha
end
end Go.Proofs.YtijkkgloennglaaGreatDoor.Ab
