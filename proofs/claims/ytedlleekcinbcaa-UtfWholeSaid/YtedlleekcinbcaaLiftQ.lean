/- The lifting, seventeenth part: regions. -/
import Derived.Test.YtedlleekcinbcaaLiftP
namespace Go.Lift
set_option linter.unusedVariables false
set_option linter.unusedSimpArgs false
set_option linter.unusedSectionVars false
variable [GTab]

section
variable {m : List Nat} {c : Cl} {w : World} {g : Env} {h : Heap} {a : Act} {E : Entry} {cx : Cx}

/-- an operation ahead of all that writes, as the machine carries it out -/
theorem head_ok (hI : InvP cx.hint.vars E m c w g h a) (hX : CxOK cx E) {o : Oper} {v : V} (he : evHead cx (g, h) o = some v) (hd : ∀ t, o.dst = some t → t < E.nt)
    (hv : (∃ x, o.op = .assign x) ∨ ∀ t, o.dst = some t → t ∉ cx.hint.vars) : Goes cx E a w o v g h := by
  unfold evHead at he
  split at he
  · rename_i heff
    generalize hop : o.op = op at he heff
    have hv' : (∀ x, op ≠ .assign x) → ∀ t, o.dst = some t → t ∉ cx.hint.vars := fun hne => by
      rcases hv with ⟨x, hx⟩ | hv
      · rw [hop] at hx; exact absurd hx (hne x)
      · exact hv
    cases op with
    | call k =>
      simp only at he
      split at he
      · rename_i f hc
        split at he
        · rename_i fid caps hf
          simp only [Option.map_eq_some_iff] at he
          obtain ⟨⟨r, h2⟩, hcall, rfl⟩ := he
          exact fun next Q hn => call_quiet hI hop hc hf (hX.call _ _ _ _ _ _ (Nat.le_refl _) hcall) hd (hv' (fun x e => by cases e)) hn
        · cases he
      · cases he
    | convert s d x =>
      simp only at he
      split at he
      · cases he
      · simp only [Option.map_eq_some_iff] at he
        obtain ⟨⟨v', g', h'⟩, hev, rfl⟩ := he
        have hs := is_string (P := cx.P) (by simpa [isEff] using heff)
        have hgh : g' = g ∧ h' = h := by
          simp only [evEff] at hev
          split at hev
          · split at hev
            · simp only [Bool.false_eq_true, if_false, Option.some.injEq, Prod.mk.injEq] at hev
              exact ⟨hev.2.1.symm, hev.2.2.symm⟩
            · cases hev
          · simp only [Option.some.injEq, Prod.mk.injEq] at hev
            exact ⟨hev.2.1.symm, hev.2.2.symm⟩
          · cases hev
        obtain ⟨rfl, rfl⟩ := hgh
        exact (eff_convert hI hop hs hev hd (hv' (fun x e => by cases e))).goes
    | _ => cases he
  · rename_i heff
    have hna : ∀ t, o.dst = some t → t ∉ cx.hint.vars := by
      rcases hv with ⟨x, hx⟩ | hv
      · rw [hx] at heff; exact absurd rfl heff
      · exact hv
    obtain ⟨y, hy, hvr, ht⟩ := pure_ok hI.core he
    intro next Q hn
    exact (show Does cx.P w a o y w from .inl hy).wp (hn y w m c (hI.put hd hvr ht (.inl hna)))

theorem opA_ok (hI : InvP cx.hint.vars E m c w g h a) (hX : CxOK cx E) {ops : Array Oper} (hO : OpsOK cx E ops.toList) {i : Nat} {s1 : St} (he : opA cx ops i (g, h) = some s1) {K : Act → World → Prop} {Q : Exit → Act → World → Prop}
    (hK : ∀ m' c' w' a', InvP cx.hint.vars E m' c' w' s1.1 s1.2 a' → K a' w') : wpOp cx.P ops Q i K a w := by
  unfold opA at he
  unfold wpOp
  split
  · rename_i hn
    rw [hn] at he
    simp only [Option.some.injEq] at he
    subst he
    exact hK m c w a hI
  · rename_i o ho
    rw [ho] at he
    simp only at he
    have hoo := hO o (Array.mem_toList_iff.2 (Array.mem_of_getElem? ho))
    split at he
    · rename_i hw
      split at he
      · rename_i v hv
        simp only [Option.some.injEq] at he
        subst he
        rw [want_spec hI hw, if_pos rfl]
        exact .inl (head_ok hI hX hv hoo.1 hoo.2 _ Q fun x w' m' c' hI' => hK m' c' w' _ hI')
      · cases he
    · rename_i hw
      split at he
      · cases he
      · rename_i hna
        simp only [Option.some.injEq] at he
        subst he
        rw [want_spec hI hw, if_neg (by simp)]
        exact hK m c w _ (undef_put hI hoo.1 (not_assign (by simpa using hna) hoo.2))
    · cases he

/-- whatever order the tape picks -/
theorem any_ok (hX : CxOK cx E) {ops : Array Oper} (hO : OpsOK cx E ops.toList) {md : Region.Mode} {n gg : Nat} {s' : St} {Q : Exit → Act → World → Prop}
    (hL : ∀ listed m c w a, Region.seqB md ops gg n listed = true → InvP cx.hint.vars E m c w s'.1 s'.2 a → wpAny cx.P md ops Q gg listed a w) :
    ∀ (f : Nat) (listed : Array Bool) (s : St) (m : List Nat) (c : Cl) (w : World) (a : Act), anyL cx md ops n (fun listed' s2 => Region.seqB md ops gg n listed' = true ∧ s2 = s') f listed s → InvP cx.hint.vars E m c w s.1 s.2 a → wpAny cx.P md ops Q (f + gg) listed a w
  | 0, listed, s, m, c, w, a, h, hI => by
    obtain ⟨h1, rfl⟩ := h
    rw [Nat.zero_add]
    exact hL listed m c w a h1 hI
  | f + 1, listed, s, m, c, w, a, h, hI => by
    rw [show f + 1 + gg = (f + gg) + 1 by omega]
    refine ⟨fun h0 => absurd h0 h.1, fun i hi => ?_⟩
    obtain ⟨_, s1, h1, h2⟩ := h.2 i hi
    exact opA_ok (g := s.1) (h := s.2) hI hX hO h1 fun m' c' w' a' hI' => any_ok hX hO hL f _ s1 m' c' w' a' h2 hI'

theorem lexFrom_head {md : Region.Mode} {ops : Array Oper} : ∀ (f k : Nat) (listed : Array Bool), Region.lexFrom md ops f k listed = Region.lexHead md ops 0 f k listed
  | 0, k, listed => rfl
  | f + 1, k, listed => by simp only [Region.lexFrom, Region.lexHead, lexFrom_head f (k + 1)]

theorem headInv0 {md : Region.Mode} (ops : Array Oper) (n : Nat) : HeadInv md ops n (Array.replicate ops.size false) :=
  ⟨by simp, fun j oj _ hl => (by rw [getD_replicate_false] at hl; cases hl), fun t _ ht => getD_in (by simpa using ht) (getD_replicate_false _ _)⟩

theorem heads_all (hX : CxOK cx E) (hm : cx.P.follows .mixedOrders = true) {id : Nat} {ops : Array Oper} (hO : OpsOK cx E ops.toList) (hdr : drawOk cx.P cx.hint id ops = true) (hI : InvP cx.hint.vars E m c w g h a) {s' : St} (he : evDraw cx id ops (g, h) = some s') {Q : Exit → Act → World → Prop}
    (hQ : ∀ m' c' w' a', InvP cx.hint.vars E m' c' w' s'.1 s'.2 a' → Q .normal a' w') : (Code.region id ops true).wp cx.P Q a w := by
  have hI0 : InvP cx.hint.vars E m c { w with drawn := w.drawn + 1 } g h a := hI.grown (c' := c) none (Nat.le_refl _) (fun b _ _ => ⟨rfl, rfl⟩) (fun b hb => by cases hb) (fun b hb _ h0 => by rw [hI.core.c_zero hb] at h0; omega) rfl rfl rfl
  unfold evDraw at he
  split at he
  · rename_i s1 h1
    refine wp_region_any hm ?_
    unfold drawOk at hdr
    split at hdr
    · -- all of them
      rename_i hn
      rw [hn] at h1 he
      have ht : ops.toList.take ops.size = ops.toList := List.take_of_length_le (by simp)
      have hdp : ops.toList.drop ops.size = [] := List.drop_eq_nil_of_le (by simp)
      rw [ht] at h1
      rw [hdp] at he
      simp only [evOps, Option.some.injEq] at he
      subst he
      simp only [Region.lexB, Bool.and_eq_true] at hdr
      have hany := anyL_lex (cx := cx) (md := .any) (n := ops.size) (gg := 0) (s' := s1) (fun h0 => absurd h0 (Nat.lt_irrefl _)) (Nat.le_refl _) ops.toList 0 _ (g, h) (fun j _ => by simp) (by simp) (headInv0 ops ops.size) (by rw [← lexFrom_head]; simpa using hdr.2) h1
      have := any_ok (Q := Q) hX hO (fun listed m c w a hs hI' => by
        refine ⟨?_, hQ m c w a hI'⟩
        simpa [Region.seqB] using hs) _ _ (g, h) m c _ a hany hI0
      simpa using this
    · rename_i hn
      simp only [Region.lexTailB, Bool.and_eq_true, decide_eq_true_eq] at hdr
      obtain ⟨⟨⟨⟨hsel, hlt⟩, hs⟩, hc⟩, hlex⟩ := hdr
      have htl : (ops.toList.take (tailAt cx.P cx.hint id ops)).length = tailAt cx.P cx.hint id ops := by simp; omega
      have hdl : (ops.toList.drop (tailAt cx.P cx.hint id ops)).length = ops.size - tailAt cx.P cx.hint id ops := by simp
      have hany := anyL_lex (cx := cx) (md := .any) (n := tailAt cx.P cx.hint id ops) (gg := ops.size - tailAt cx.P cx.hint id ops) (s' := s1) (fun _ => ⟨hs, hc⟩) (Nat.le_of_lt hlt) (ops.toList.take (tailAt cx.P cx.hint id ops)) 0 _ (g, h)
        (fun j hj => by rw [List.getElem?_take, if_pos (by omega)]; simp) (by rw [Nat.zero_add, htl]) (headInv0 ops _) (by rw [htl]; exact hlex) h1
      have := any_ok (Q := Q) hX hO (fun listed m c w a hsq hI' => by
        have hw := ops_ok hX (ops := ops) (Q := Q) (ops.toList.drop (tailAt cx.P cx.hint id ops)) m c w s1.1 s1.2 a s' (fun o ho => hO o (List.mem_of_mem_drop ho)) hI' he hQ
        have := wpAny_of_seq (md := .any) (ops.toList.drop (tailAt cx.P cx.hint id ops)) (tailAt cx.P cx.hint id ops) listed a w (fun j => by rw [List.getElem?_drop]; simp) (by rw [hdl]; exact hsq) hw
        rw [hdl] at this
        exact this) _ _ (g, h) m c _ a hany hI0
      rw [htl, show tailAt cx.P cx.hint id ops + (ops.size - tailAt cx.P cx.hint id ops) = ops.size by omega] at this
      exact this
  · cases he

theorem look_lives {l : List Nat} {t : Nat} : look (l.map fun u => (u, look g u)) t = if t ∈ l then look g t else .undef := by
  induction l with
  | nil => rfl
  | cons u l ih =>
    simp only [List.map_cons, look, ih, List.mem_cons]
    by_cases h : u = t
    · simp [h]
    · simp [h, Ne.symm h]

/-- some slots are forgotten -/
theorem InvP.lives {vars : List Nat} (hI : InvP vars E m c w g h a) (l : Option (List Nat)) : InvP vars E m c w (Lift.untag (Lift.lives l g)) h a := by
  cases l with
  | none => exact hI.untag
  | some l =>
    have hlk : ∀ t v, look (Lift.untag (Lift.lives (some l) g)) t = v → v = .undef ∨ v = untag1 (look g t) := fun t v hv => by
      rw [look_untag, Lift.lives, look_lives] at hv
      split at hv
      · exact .inr hv.symm
      · exact .inl hv.symm
    have hC := hI.core
    have hAt : ∀ {k r x}, At m w (Lift.untag (Lift.lives (some l) g)) h a k r x → At m w g h a k r x := fun {k r x} hl => by
      cases k with
      | slot t =>
        rcases hlk t _ hl.1 with h1 | h1
        · cases h1
        · exact ⟨untag1_yes.1 h1.symm, hl.2⟩
      | cell i j => exact hl
    refine ⟨⟨hC.wf1, hC.wf2, hC.nd, hC.len, fun t => ?_, hC.ob, fun k r x hl => hC.own k r x (hAt hl), fun k k' r r' x x' b h1 h2 => hC.uniq k k' r r' x x' b (hAt h1) (hAt h2), fun t u r ht => absurd ht (noTags t u r), fun t i j r ht => absurd ht (noTagC t i j r), hC.gt⟩,
      hI.fr, fun k r x b hl hu hb => hI.owned k r x b (hAt hl) hu hb, hI.hlo, hI.hlen, hI.ml, hI.lole, hI.nt, hI.df, hI.old⟩
    rcases hlk t _ rfl with h1 | h1
    · rw [h1]; trivial
    · rw [h1]; exact (hC.env t).untag

theorem region_ok (hX : CxOK cx E) (hm : cx.P.follows .mixedOrders = true) {id : Nat} {ops : Array Oper} {draw : Bool} (hO : OpsOK cx E ops.toList) (hdr : draw = true → drawOk cx.P cx.hint id ops = true) (hI : InvP cx.hint.vars E m c w g h a) {s' : St} (he : evRegion cx id ops draw (g, h) = some s') {Q : Exit → Act → World → Prop}
    (hQ : ∀ m' c' w' a', InvP cx.hint.vars E m' c' w' s'.1 s'.2 a' → Q .normal a' w') : (Code.region id ops draw).wp cx.P Q a w := by
  unfold evRegion at he
  split at he
  · rename_i s1 h1
    have hfin : ∀ m' c' w' a', InvP cx.hint.vars E m' c' w' s1.1 s1.2 a' → Q .normal a' w' := fun m' c' w' a' hI' => by
      have hI2 := hI'.lives (cx.hint.live id)
      unfold keeps at he
      split at he
      · simp only [Option.some.injEq] at he
        subst he
        exact hQ _ _ _ _ hI2
      · rename_i n hn
        split at he
        · rename_i hok
          simp only [Option.some.injEq] at he
          subst he
          rw [hX.base] at hok hQ
          refine hQ _ _ _ _ (hI2.less (Nat.le_add_right _ _) fun p hp => ?_)
          have h2 := List.all_eq_true.1 hok p hp
          refine ⟨h2, ?_, fun vs e => by rw [e] at h2; cases h2⟩
          simp only [Lift.untag, List.mem_map] at hp
          obtain ⟨q, _, rfl⟩ := hp
          cases hq : q.2 with
          | list k r => cases k <;> simp [untag1]
          | _ => simp [untag1]
        · cases he
    cases draw with
    | false =>
      simp only [Bool.false_eq_true, if_false] at h1
      exact wp_region_list (ops_ok hX ops.toList m c w g h a s1 hO hI h1 hfin)
    | true =>
      simp only [if_true] at h1
      exact heads_all hX hm hO (hdr rfl) hI h1 hfin
  · cases he

end
end Go.Lift
