/- The lifting, nineteenth part: functions. -/
import Derived.Test.YtedlleekcinbcaaLiftR
namespace Go.Lift
set_option linter.unusedVariables false
set_option linter.unusedSimpArgs false
set_option linter.unusedSectionVars false
variable [GTab]

section
variable {vars : List Nat} {P : Program} {m : List Nat} {c : Cl} {w : World} {g : Env} {h : Heap} {a : Act} {E : Entry}

theorem VRr.noTup {v : V} {x : Value} (hv : VRr m c w v x) (hn : ∀ vs, v ≠ .tup vs) : VR m c w v x := by
  cases v with
  | tup vs => exact absurd rfl (hn vs)
  | _ => exact hv

theorem bare_fzs {v : V} : bare (fzs v) = true := by cases v <;> rfl

/-- a result, as the machine reads it -/
def resF (tmps : Array Value) : ResultVar → Sem Value
  | .tmp t => pure (tmps.getD t undef)
  | .cell b t => do loadVar t (← asAddr (tmps.getD b undef))

theorem results_eq (fn : Func) (tmps : Array Value) : results fn tmps = (do
    let vs ← fn.results.mapM (resF tmps)
    pure (if h : vs.size = 1 then vs[0] else .tuple vs)) := by
  unfold results
  have : (fun (x : ResultVar) => (match x with | .tmp t => pure (tmps.getD t undef) | .cell a t => do loadVar t (← asAddr (tmps.getD a undef)) : Sem Value)) = resF tmps := by
    funext r
    cases r <;> rfl
  rw [← this]
  rfl

theorem res_one (hI : InvP vars E m c w g h a) {r : ResultVar} {v : V} (hr : evRes P (g, h) r = some v) :
    ∃ x, (resF a.tmps r).run P w = .ok x w ∧ VR m c w v x ∧ bare v = true := by
  cases r with
  | tmp t =>
    simp only [evRes] at hr
    split at hr
    · cases hr
    · rename_i hn
      simp only [Option.some.injEq] at hr
      subst hr
      exact ⟨a.tmps.getD t undef, rfl, ((hI.core.env t).noTup hn).fzs, bare_fzs⟩
  | cell b t =>
    simp only [evRes] at hr
    split at hr
    · rename_i i o hl
      simp only [Option.map_eq_some_iff] at hr
      obtain ⟨u, hu, rfl⟩ := hr
      have he := hI.core.env b
      rw [hl] at he
      obtain ⟨z, hz, hv, _⟩ := loadV_ok (P := P) hI.core he hu
      obtain ⟨gb, hg, hy⟩ := he
      refine ⟨z, ?_, hv.fzs, bare_fzs⟩
      rw [hy] at hz
      simp only [resF, hy]
      simpa [Instr.loadAt, Instr.sureAddr, asAddr] using hz
    · cases hr

theorem res_list (hI : InvP vars E m c w g h a) : ∀ (rs : List ResultVar) (vs : List V), evResults P (g, h) rs = some vs →
    ∃ xs : List Value, (rs.mapM (resF a.tmps)).run P w = .ok xs w ∧ R2 (VR m c w) vs xs ∧ ∀ v ∈ vs, bare v = true
  | [], vs, hr => by
    simp only [evResults, Option.some.injEq] at hr
    subst hr
    exact ⟨[], rfl, R2.nil, fun v hv => by cases hv⟩
  | r :: rs, vs, hr => by
    simp only [evResults] at hr
    split at hr
    · rename_i x xs h1 h2
      simp only [Option.some.injEq] at hr
      subst hr
      obtain ⟨y, hy, hv, hb⟩ := res_one hI h1
      obtain ⟨ys, hys, hvs, hbs⟩ := res_list hI rs xs h2
      refine ⟨y :: ys, ?_, R2.cons hv hvs, fun v hv => ?_⟩
      · rw [List.mapM_cons]
        simp only [Sem.run_bind, hy, Result.andThen_ok, hys]
        rfl
      · rcases List.mem_cons.1 hv with rfl | hv
        · exact hb
        · exact hbs v hv
    · cases hr

theorem results_ok (hI : InvP vars E m c w g h a) {fn : Func} {vs : List V} (hr : evResults P (g, h) fn.results.toList = some vs) :
    ∃ x, (results fn a.tmps).run P w = .ok x w ∧ VRr m c w (resV vs) x ∧ bare (resV vs) = true := by
  obtain ⟨xs, hxs, hv, hb⟩ := res_list hI _ _ hr
  have hrun : (results fn a.tmps).run P w = .ok (if h : xs.toArray.size = 1 then xs.toArray[0] else .tuple xs.toArray) w := by
    rw [results_eq, ← Array.toArray_toList (xs := fn.results), List.mapM_toArray]
    simp only [Sem.run_bind, Sem.run_map, hxs, Result.andThen_ok]
    rfl
  match vs, xs, hv, hb, hrun with
  | [], [], _, _, hrun => exact ⟨_, hrun, ⟨#[], rfl, R2.nil⟩, rfl⟩
  | [v], [x], hv, hb, hrun => exact ⟨x, by simpa using hrun, hv.head.r, hb v (by simp)⟩
  | u :: v :: vs, x :: y :: xs, hv, _, hrun => exact ⟨.tuple (x :: y :: xs).toArray, by simpa using hrun, ⟨_, rfl, by simpa using hv⟩, rfl⟩
  | [], _ :: _, hv, _, _ => simp [R2] at hv
  | [_], [], hv, _, _ => simp [R2] at hv
  | [_], _ :: _ :: _, hv, _, _ => simp [R2] at hv
  | _ :: _ :: _, [], hv, _, _ => simp [R2] at hv
  | _ :: _ :: _, [_], hv, _, _ => simp [R2] at hv

theorem res_bare {s : St} : ∀ (rs : List ResultVar) (vs : List V), evResults P s rs = some vs → ∀ v ∈ vs, bare v = true
  | [], vs, hr => by
    simp only [evResults, Option.some.injEq] at hr
    subst hr
    exact fun v hv => by cases hv
  | r :: rs, vs, hr => by
    simp only [evResults] at hr
    split at hr
    · rename_i x xs h1 h2
      simp only [Option.some.injEq] at hr
      subst hr
      have hx : bare x = true := by
        unfold evRes at h1
        split at h1
        · split at h1
          · cases h1
          · simp only [Option.some.injEq] at h1; subst h1; exact bare_fzs
        · split at h1
          · simp only [Option.map_eq_some_iff] at h1
            obtain ⟨u, _, rfl⟩ := h1
            exact bare_fzs
          · cases h1
      exact fun v hv => by
        rcases List.mem_cons.1 hv with rfl | hv
        · exact hx
        · exact res_bare rs xs h2 v hv
    · cases hr

theorem finish_bare {s : St} {fn : Func} {b : Nat} {r : V} {h' : Heap} (hf : finish P fn b s = some (r, h')) : bare r = true := by
  unfold finish at hf
  split at hf
  · rename_i vs hvs
    split at hf
    · simp only [Option.some.injEq, Prod.mk.injEq] at hf
      obtain ⟨rfl, _⟩ := hf
      have := res_bare _ _ hvs
      match vs, this with
      | [], _ => rfl
      | [v], h1 => exact h1 v (by simp)
      | _ :: _ :: _, _ => rfl
    · cases hf
  · cases hf

theorem look_args (args : List V) : ∀ (t : Nat), look (args0 args) t = args.getD t .undef := by
  have key : ∀ (l : List V) (k t : Nat), look ((l.zipIdx k).map fun p => (p.2, p.1)) t = if k ≤ t then l.getD (t - k) .undef else .undef := by
    intro l
    induction l with
    | nil => intro k t; simp [look]
    | cons x l ih =>
      intro k t
      simp only [List.zipIdx_cons, List.map_cons, look, ih]
      by_cases h : k = t
      · subst h; simp
      · by_cases h2 : k ≤ t
        · rw [if_neg h, if_pos (by omega), if_pos h2]
          rw [show t - k = (t - (k + 1)) + 1 by omega]
          simp
        · rw [if_neg h, if_neg (by omega), if_neg h2]
  intro t
  have := key args 0 t
  simpa [args0] using this

/-- where a call begins -/
theorem start_ok {args : List V} {xs : Array Value} {nt lo : Nat} (hH : HOK m c w h) (hargs : R2 (VRr m c w) args xs.toList) (hb : args.all bare = true) (hn : args.length ≤ nt) (hlo : lo ≤ h.length) :
    InvP vars ⟨lo, h.length, w, m, c, hoOf m w h lo, h, nt⟩ m c w (args0 args) h ⟨xs ++ Array.replicate (nt - xs.size) undef, []⟩ := by
  obtain ⟨hC, hold⟩ := hH
  have hbl : ∀ t k r, look (args0 args) t = .list k r → k = .no := fun t k r ht => by
    rw [look_args] at ht
    by_cases hl : t < args.length
    · rw [List.getD_eq_getElem?_getD, List.getElem?_eq_getElem hl] at ht
      have := List.all_eq_true.1 hb _ (List.getElem_mem hl)
      simp only [Option.getD_some] at ht
      rw [ht] at this
      cases k <;> simp [bare] at this
      rfl
    · rw [List.getD_eq_getElem?_getD, List.getElem?_eq_none (by omega)] at ht
      cases ht
  have hAt : ∀ {l r x}, At m w (args0 args) h ⟨xs ++ Array.replicate (nt - xs.size) undef, []⟩ l r x → At m w [] h act0 l r x := fun {l r x} hl => by
    cases l with
    | slot t => have := hbl t _ r hl.1; cases this
    | cell i j => exact hl
  refine ⟨⟨hC.wf1, hC.wf2, hC.nd, hC.len, fun t => ?_, hC.ob, fun l r x hl => hC.own l r x (hAt hl), fun l l' r r' x x' b h1 h2 => hC.uniq l l' r r' x x' b (hAt h1) (hAt h2), fun t u r ht => (by have := hbl t _ r ht; cases this), fun t i j r ht => (by have := hbl t _ r ht; cases this), hC.gt⟩,
    Fr.refl _ _ _ _ _, fun l r x b hl hu hb' => ?_, rfl, Nat.le_refl _, hC.len, hlo, ?_, rfl, hold⟩
  · rw [look_args]
    by_cases hl : t < args.length
    · obtain ⟨y, hy, hv⟩ := hargs.get (List.getElem?_eq_getElem hl)
      rw [List.getD_eq_getElem?_getD, List.getElem?_eq_getElem hl, Option.getD_some]
      have hxs : t < xs.size := by have := hargs.1; simp at this; omega
      have : (xs ++ Array.replicate (nt - xs.size) undef).getD t undef = y := by
        rw [Array.getD_eq_getD_getElem?, Array.getElem?_append_left hxs]
        have : xs[t]? = some y := by simpa using hy
        simp [this]
      rw [this]
      exact hv
    · rw [List.getD_eq_getElem?_getD, List.getElem?_eq_none (by omega)]
      trivial
  · cases l with
    | slot t => have := hbl t _ r hl.1; cases this
    | cell i j => exact .inr ⟨i, j, r, x, hu, hl, hb'⟩
  · have := hargs.1
    simp at this ⊢
    omega

theorem take_pre {m0 m' : List Nat} (hp : Pre m0 m') : m'.take m0.length = m0 := by
  apply List.ext_getElem?
  intro i
  rw [List.getElem?_take]
  by_cases h : i < m0.length
  · rw [if_pos h, hp i _ (List.getElem?_eq_getElem h), List.getElem?_eq_getElem h]
  · rw [if_neg h, List.getElem?_eq_none (by omega)]

/-- where a call ends -/
theorem finish_ok (hI : InvP vars E m c w g h a) {fn : Func} {r : V} {h' : Heap} (hf : finish P fn E.base (g, h) = some (r, h')) :
    ∃ x, (results fn a.tmps).run P w = .ok x w ∧ VRr E.m c w r x ∧ bare r = true ∧ HOK E.m c w h' ∧ Fr E.lo E.ho E.w E.m E.c w E.m c ∧ Owned E.lo E.ho E.w E.m w [] h' act0 ∧ h' = h.take E.base := by
  unfold finish at hf
  split at hf
  · rename_i vs hvs
    split at hf
    · rename_i hok
      simp only [Option.some.injEq, Prod.mk.injEq] at hf
      obtain ⟨rfl, rfl⟩ := hf
      obtain ⟨x, hx, hv, hb⟩ := results_ok hI hvs
      have hm : m.take E.base = E.m := by rw [← hI.ml]; exact take_pre hI.fr.pre
      have hv' := hv.less (n := E.base) hok
      rw [hm] at hv'
      have hI2 := (hI.lives (some [])).less (n := E.base) (Nat.le_refl _) (fun p hp => by simp [Lift.lives, Lift.untag] at hp)
      rw [hm] at hI2
      refine ⟨x, hx, hv', hb, hI2.hok, hI2.fr, fun l r y b hl hu hb' => ?_, rfl⟩
      cases l with
      | slot t => exact absurd hl.1 (by simp [look])
      | cell i j => exact hI2.owned (.cell i j) r y b hl hu hb'
    · cases hf
  · cases hf

/-- THE LIFTING: what the evaluation of a function gives, its call gives -/
theorem fun_ok {hints : Nat → Hint} {prim : Nat → Option (Nat → List V → Heap → Option (V × Heap))} (hm : P.follows .mixedOrders = true)
    (hprim : ∀ f p, prim f = some p → ∀ lo args h r h', lo ≤ h.length → p lo args h = some (r, h') → CallOK P lo f args h r h') :
    ∀ (n lo f : Nat) (args : List V) (h : Heap) (r : V) (h' : Heap), lo ≤ h.length → evFun P hints prim n lo f args h = some (r, h') → CallOK P lo f args h r h' := by
  intro n
  induction n with
  | zero => intro lo f args h r h' _ he; cases he
  | succ n ih =>
    intro lo f args h r h' hlo he
    simp only [evFun] at he
    split at he
    · rename_i p hp
      exact hprim f p hp lo args h r h' hlo he
    · unfold evBody at he
      split at he
      · rename_i fn hfn
        split at he
        · rename_i b hb
          split at he
          · rename_i hck
            simp only [Bool.and_eq_true, decide_eq_true_eq, bne_iff_ne, ne_eq] at hck
            obtain ⟨⟨⟨hco, hle⟩, hba⟩, hname⟩ := hck
            have hX : ∀ m c w, CxOK ⟨P, evFun P hints prim n, lo, h.length, hints f⟩ ⟨lo, h.length, w, m, c, hoOf m w h lo, h, fn.ntmps⟩ := fun m c w =>
              ⟨rfl, rfl, fun lo f args h r h' hl hc => ih lo f args h r h' hl hc⟩
            have hcf : ∀ xs w, (callFunc f xs).run P w = .ok (.enter f xs) w := fun xs w => by
              simp [callFunc, hfn, hname, hb]
            have hend : ∀ (e : Ex) (s : St), (e = .normal ∨ e = .ret) → evCode ⟨P, evFun P hints prim n, lo, h.length, hints f⟩ (loopN n) b (args0 args, h) = some (e, s) → finish P fn h.length s = some (r, h') → CallOK P lo f args h r h' := fun e s hes hev hfin => by
              refine ⟨finish_bare hfin, hcf, fun m c w xs hH hargs => ⟨?_, ?_⟩⟩
              · have hI := start_ok (vars := (hints f).vars) hH hargs hba hle hlo
                have hwp := code_ok (hX m c w) hm n b m c w (args0 args) h _ e s (fun _ _ _ => h'.length = h.length ∧ h'.take lo = h.take lo) hco hI hev fun m' c' w' a' hI' => by
                  obtain ⟨_, _, _, _, _, _, _, rfl⟩ := finish_ok (P := P) hI' hfin
                  refine ⟨?_, ?_⟩
                  · have : h.length ≤ s.2.length := hI'.hlen
                    simp only [List.length_take]
                    exact Nat.min_eq_left this
                  · rw [List.take_take, Nat.min_eq_left (show lo ≤ h.length from hlo)]
                    exact hI'.hlo
                obtain ⟨_, _, _, hq, _⟩ := hwp default [] []
                exact hq
              have hI := start_ok (vars := (hints f).vars) hH hargs hba hle hlo
              refine calls_of_wp hfn hb ?_
              refine code_ok (hX m c w) hm n b m c w (args0 args) h _ e s _ hco hI hev fun m' c' w' a' hI' => ?_
              obtain ⟨x, hx, hv, _, hH', hF, hO, _⟩ := finish_ok (P := P) hI' hfin
              have : bodyPost P fn (fun e w' => ∃ x c', e = .returned x ∧ VRr m c' w' r x ∧ HOK m c' w' h' ∧ Fr lo (hoOf m w h lo) w m c w' m c' ∧ Owned lo (hoOf m w h lo) w m w' [] h' act0) .normal a' w' :=
                ⟨hI'.df, x, hx, x, c', rfl, hv, hH', hF, hO⟩
              rcases hes with rfl | rfl
              · exact this
              · exact this
            split at he
            · cases he
            · rename_i e s hne hs
              cases e with
              | normal => exact hend .normal s (.inl rfl) hs he
              | exit j => exact absurd rfl (hne j)
              | ret => exact hend .ret s (.inr rfl) hs he
            · cases he
          · cases he
        · cases he
      · cases he

end
end Go.Lift
