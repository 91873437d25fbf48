/- The abstract machine: a region that draws its order, proved. -/
import Derived.Test.YtbhkbaapfioijaaAmL
set_option linter.unusedVariables false
set_option linter.unusedSimpArgs false
namespace Go.Am

def cnt (D : Nat → Bool) : Nat → Nat
  | 0 => 0
  | k + 1 => cnt D k + (if D k then 1 else 0)
theorem cnt_le (D : Nat → Bool) : ∀ k, cnt D k ≤ k
  | 0 => Nat.le_refl _
  | k + 1 => by have := cnt_le D k; simp only [cnt]; split <;> omega
theorem cnt_all {D : Nat → Bool} : ∀ {k : Nat}, cnt D k = k → ∀ j, j < k → D j = true
  | 0, _, j, hj => by omega
  | k + 1, h, j, hj => by
    have := cnt_le D k
    simp only [cnt] at h
    by_cases hd : D k = true
    · rw [if_pos hd] at h
      by_cases hjk : j = k
      · subst hjk; exact hd
      · exact cnt_all (k := k) (by omega) j (by omega)
    · rw [if_neg hd] at h; omega
theorem cnt_congr {D D' : Nat → Bool} : ∀ {k : Nat}, (∀ j, j < k → D j = D' j) → cnt D k = cnt D' k
  | 0, _ => rfl
  | k + 1, h => by simp only [cnt, cnt_congr (k := k) fun j hj => h j (by omega), h k (Nat.lt_succ_self _)]
theorem cnt_insert {D : Nat → Bool} {i : Nat} (hi : D i = false) : ∀ {k : Nat}, i < k → cnt (fun j => D j || j == i) k = cnt D k + 1
  | 0, h => by omega
  | k + 1, h => by
    simp only [cnt]
    by_cases hik : i = k
    · subst hik
      have : cnt (fun j => D j || j == i) i = cnt D i := cnt_congr fun j hj => by
        have : (j == i) = false := by simp; omega
        simp [this]
      rw [this]
      simp [hi]
    · have hb : (k == i) = false := by simp; omega
      rw [cnt_insert hi (by omega)]
      simp only [hb, Bool.or_false]
      omega

section
variable {P : Program} {N : Nat} {Q : Exit → St → AH → Prop} {st0 : St} {h0 hb : AH} {w0 : World} {ι0 : Inj} {base : Nat} {ops : Array Oper} {aops : List AOper} {dep : Nat → Nat → Prop} {m : Nat}

theorem opersOf_spec (hof : opersOf P N ops = some aops) : aops.length = ops.size ∧ ∀ (i : Nat) (o : Oper), ops[i]? = some o → ∃ ao, aops[i]? = some ao ∧ AOper.of P ops o = some ao ∧ ao.d = o.dst ∧ (∀ x, o.dst = some x → x < N) ∧ ∀ s b, ao.g = some (s, b) → s < N := by
  unfold opersOf at hof
  simp only [Option.bind_eq_bind, Option.bind_eq_some_iff] at hof
  obtain ⟨l, hl, hof⟩ := hof
  split at hof
  · rename_i hall
    simp only [Option.some.injEq] at hof
    subst hof
    refine ⟨by simpa using mapM_length hl, fun i o ho => ?_⟩
    have gen : ∀ (xs : List Oper) (ys : List AOper), xs.mapM (AOper.of P ops) = some ys → ∀ (i : Nat) (o : Oper), xs[i]? = some o → ∃ ao, ys[i]? = some ao ∧ AOper.of P ops o = some ao := by
      intro xs
      induction xs with
      | nil => intro ys h i o ho; simp at ho
      | cons x xs ih =>
        intro ys h i o ho
        simp only [List.mapM_cons, Option.pure_def, Option.bind_eq_bind, Option.bind_eq_some_iff, Option.some.injEq] at h
        obtain ⟨y, hy, zs, hzs, rfl⟩ := h
        cases i with
        | zero => simp at ho; subst ho; exact ⟨y, rfl, hy⟩
        | succ i => simpa using ih zs hzs i o (by simpa using ho)
    obtain ⟨ao, hao, hof⟩ := gen _ _ hl i o (by simpa using ho)
    have hfit := List.all_eq_true.1 hall ao (List.mem_of_getElem? hao)
    unfold AOper.fits at hfit
    have hd : ao.d = o.dst := by
      unfold AOper.of at hof
      simp only [Option.bind_eq_bind, Option.bind_eq_some_iff] at hof
      obtain ⟨op, _, hof⟩ := hof
      split at hof
      · cases hof; rfl
      · split at hof
        · cases hof; rfl
        · cases hof
    refine ⟨ao, hao, hof, hd, fun x hx => ?_, fun s b hs => ?_⟩
    · rw [← hd] at hx; rw [hx] at hfit; simp at hfit; exact hfit.1
    · rw [hs] at hfit; simp at hfit; exact hfit.2
  · cases hof

def lst (listed : Array Bool) : Nat → Bool := fun j => listed.getD j false

theorem lst_set {listed : Array Bool} {i : Nat} (hi : i < listed.size) : lst (listed.setIfInBounds i true) = fun j => lst listed j || j == i := by
  funext j
  unfold lst
  simp only [Array.getD_eq_getD_getElem?]
  by_cases h : j = i
  · subst h; simp [Array.getElem?_setIfInBounds_self_of_lt hi]
  · rw [Array.getElem?_setIfInBounds_ne (by omega)]
    have : (j == i) = false := by simpa using h
    simp [this]

theorem ready_spec {listed : Array Bool} (hs : listed.size = ops.size) {i : Nat} (hi : i ∈ Region.ready .any ops listed) : i < ops.size ∧ lst listed i = false ∧ ∀ o e, ops[i]? = some o → e ∈ o.after → Region.binds .any e = true → lst listed e.on = true := by
  obtain ⟨h1, o, ho, h2⟩ := mem_ready.1 hi
  have hlt : i < ops.size := (Array.getElem?_eq_some_iff.1 ho).1
  refine ⟨hlt, ?_, fun o' e ho' he hb => ?_⟩
  · unfold lst
    have hlt' : i < listed.size := by omega
    rw [Array.getD_eq_getD_getElem?, Array.getElem?_eq_getElem hlt'] at h1 ⊢
    simpa using h1
  · rw [ho] at ho'; cases ho'; exact h2 e he hb

theorem ready_of {listed : Array Bool} (hs : listed.size = ops.size) {i : Nat} (hi : i < ops.size) (hn : lst listed i = false) (hd : ∀ o e, ops[i]? = some o → e ∈ o.after → Region.binds .any e = true → lst listed e.on = true) : i ∈ Region.ready .any ops listed := by
  refine mem_ready.2 ⟨?_, ops[i], by simp [hi], fun e he hb => hd _ e (by simp [hi]) he hb⟩
  unfold lst at hn
  have hlt' : i < listed.size := by omega
  rw [Array.getD_eq_getD_getElem?, Array.getElem?_eq_getElem hlt'] at hn ⊢
  simpa using hn

/-- Nothing is ready: everything is done. -/
theorem ready_nil (H : HeadOK ops aops dep m) {listed : Array Bool} (hs : listed.size = ops.size) (hr : Region.ready .any ops listed = []) : ∀ j, j < ops.size → lst listed j = true := by
  intro j
  induction j using Nat.strongRecOn with
  | _ j ih =>
    intro hj
    cases hq : lst listed j with
    | true => rfl
    | false =>
      have : j ∈ Region.ready .any ops listed := ready_of hs hj hq fun o e ho he hb => ih e.on (H.c1 j o e ho he hb) (by have := H.c1 j o e ho he hb; omega)
      rw [hr] at this; cases this

theorem lst_lt {listed : Array Bool} (hs : listed.size = ops.size) {j : Nat} (h : lst listed j = true) : j < ops.size := by
  unfold lst at h
  rw [Array.getD_eq_getD_getElem?] at h
  by_cases hj : j < listed.size
  · omega
  · rw [Array.getElem?_eq_none (by omega)] at h; simp at h

variable {QQ : Exit → Act → World → Prop} {K : St → AH → Prop}

theorem tail_wpAny (H : HeadOK ops aops dep m) (hof : opersOf P N ops = some aops)
    (hK : ∀ st h ι a w, K st h → ARel N ι st a → WRel ι h w → Ext ι0 h0 w0 ι h w → QQ .normal a w) :
    ∀ (fuel : Nat) (listed : Array Bool) (a : Act) (w : World) (i : Nat) (st : St) (h : AH) (ι : Inj), i + fuel = ops.size → m ≤ i → listed.size = ops.size → (∀ j, lst listed j = true ↔ j < i) →
      Inv N ι0 h0 w0 base ops.size (fun j => i ≤ j) st h a w ι → evOps P base (aops.drop i) i st h K → wpAny P .any ops QQ fuel listed a w := by
  obtain ⟨hlen, hget⟩ := opersOf_spec hof
  intro fuel
  induction fuel with
  | zero =>
    intro listed a w i st h ι hi hm hs hl I e
    have hnil : Region.ready .any ops listed = [] := by
      cases hr : Region.ready .any ops listed with
      | nil => rfl
      | cons x xs =>
        obtain ⟨h1, h2, _⟩ := ready_spec hs (i := x) (by rw [hr]; simp)
        have := (hl x).2 (by omega)
        rw [h2] at this; cases this
    rw [List.drop_eq_nil_of_le (by omega)] at e
    exact ⟨hnil, hK st h ι a w e I.ar I.wr I.ex⟩
  | succ fuel ih =>
    intro listed a w i st h ι hi hm hs hl I e
    refine ⟨fun hr => ?_, fun j hj => ?_⟩
    · have := (hl i).1 (ready_nil H hs hr i (by omega)); omega
    · obtain ⟨h1, h2, h3⟩ := ready_spec hs hj
      have hij : i ≤ j := by
        rcases Nat.lt_or_ge j i with hq | hq
        · rw [(hl j).2 hq] at h2; cases h2
        · exact hq
      have hji : j = i := by
        rcases Nat.eq_or_lt_of_le hij with hq | hq
        · exact hq.symm
        · exfalso
          have hdep := H.c4 i j (by omega) h1 hq
          obtain ⟨e', he', hb', hor⟩ := H.c2 j ops[j] i (by simp [h1]) hdep
          have hle := h3 _ e' (by simp [h1]) he' hb'
          have hc : Closed ops (lst listed) := fun a b c hd hb hc he => (hl _).2 (by
            have q1 := (hl a).1 hd
            have q2 := H.c1 a b c hb hc he
            omega)
          rcases hor with hor | hor
          · rw [hor] at hle; have := (hl i).1 hle; omega
          · have := closed_dep H hc (fun j hj => lst_lt hs hj) _ _ hle hor
            have := (hl i).1 this; omega
      subst hji
      obtain ⟨ao, hao, hofo, hd, hdN, hgN⟩ := hget j ops[j] (by simp [h1])
      have hil : j < aops.length := by omega
      rw [List.drop_eq_getElem_cons hil] at e
      have : aops[j] = ao := by rw [List.getElem?_eq_getElem hil] at hao; simpa using hao
      rw [this] at e
      simp only [evOps] at e
      refine wpOp_mono ?_ (evG_wpOp (o := ops[j]) (by simp [h1]) hofo hdN hgN h1 (Nat.le_refl j) I e)
      rintro a' w' ⟨st', h', ι', k, I'⟩
      refine ih _ a' w' (j + 1) st' h' ι' (by omega) (by omega) (by simpa using hs) (fun l => ?_) ⟨I'.ar, I'.wr, I'.ex, fun l hl' hf => I'.fr l hl' ⟨by omega, by omega⟩, I'.nx, I'.b0, I'.b1⟩ k
      rw [lst_set (by omega)]
      simp only [Bool.or_eq_true, beq_iff_eq, hl l]
      omega

theorem head_wpAny (H : HeadOK ops aops dep m) (hof : opersOf P N ops = some aops) (hmn : m ≤ ops.size)
    (hK : ∀ st h ι a w, K st h → ARel N ι st a → WRel ι h w → Ext ι0 h0 w0 ι h w → QQ .normal a w) {ρ : Nat → AV} {β : Nat → NB} (hnone : ∀ t, base ≤ t → hb.m t = none)
    (hok : ∀ j ao, j < m → aops[j]? = some ao → okG P (base + j) hb ao (stD aops ρ st0 full j) (hD β hb full j) (ρ j) (β j))
    (hsep : ∀ (i k : Nat) (ai ak : AOper), i < m → k < m → aops[i]? = some ai → aops[k]? = some ak → ai.op.free = false → ai.op.late = false → ak.op.late = true → ∀ y, ak.op.xs.head? = some y → ∀ x ∈ ai.op.xs, ∀ t, (y.val (stS true (stD aops ρ st0 full k))).tok = some t → (x.val (stS true (stD aops ρ st0 full i))).tok = some t → False)
    (htail : evOps P base (aops.drop m) m (stD aops ρ st0 full m) (hD β hb full m) K) :
    ∀ (fuel : Nat) (listed : Array Bool) (a : Act) (w : World) (ι : Inj), cnt (lst listed) ops.size + fuel = ops.size → listed.size = ops.size → Closed ops (lst listed) → (∀ j, lst listed j = true → j < m) →
      Inv N ι0 h0 w0 base ops.size (fun j => lst listed j = false) (stD aops ρ st0 (lst listed) m) (hD β hb (lst listed) m) a w ι → wpAny P .any ops QQ fuel listed a w := by
  obtain ⟨hlen, hget⟩ := opersOf_spec hof
  have B : NbOK aops hb base m ρ st0 β := ⟨fun j hj t c hbj => by
    have hja : aops[j]? = some aops[j] := List.getElem?_eq_getElem (by omega)
    have := hok j _ hj hja
    rw [hbj] at this
    rcases okG_nb this with q | ⟨q1, q2, q3, q4⟩
    · exact ⟨_, hja, .inl q⟩
    · exact ⟨_, hja, .inr ⟨q1, q2, q3, q4⟩⟩, hsep, hnone⟩
  intro fuel
  induction fuel with
  | zero =>
    intro listed a w ι hc hs hcl hlm I
    have hall := cnt_all (D := lst listed) (k := ops.size) (by omega)
    have hms : m = ops.size := by
      rcases Nat.eq_or_lt_of_le hmn with hq | hq
      · exact hq
      · have := hlm m (hall m hq); omega
    refine tail_wpAny H hof hK 0 listed a w m (stD aops ρ st0 full m) (hD β hb full m) ι (by omega) (Nat.le_refl _) hs (fun j => ⟨hlm j, fun hj => hall j (by omega)⟩) ?_ htail
    have e1 : stD aops ρ st0 (lst listed) m = stD aops ρ st0 full m := stD_congr fun j hj => ⟨rfl, hall j (by omega)⟩
    have e2 : hD β hb (lst listed) m = hD β hb full m := hD_congr fun j hj => ⟨rfl, hall j (by omega)⟩
    rw [← e1, ← e2]
    exact ⟨I.ar, I.wr, I.ex, fun j hj hf => by omega, I.nx, I.b0, I.b1⟩
  | succ fuel ih =>
    intro listed a w ι hc hs hcl hlm I
    refine ⟨fun hr => ?_, fun i hi => ?_⟩
    · exfalso
      have hall := ready_nil H hs hr
      have : ∀ k, k ≤ ops.size → cnt (lst listed) k = k := by
        intro k
        induction k with
        | zero => intro _; rfl
        | succ k ihk => intro hk; simp only [cnt, ihk (by omega), hall k (by omega), if_true]
      have := this ops.size (Nat.le_refl _)
      omega
    · obtain ⟨h1, h2, h3⟩ := ready_spec hs hi
      have hin : ∀ j, lst listed j = true → j < ops.size := fun j hj => lst_lt hs hj
      have hdeps : ∀ k, dep k i → lst listed k = true := by
        intro k hk
        obtain ⟨e', he', hb', hor⟩ := H.c2 i ops[i] k (by simp [h1]) hk
        have hle := h3 _ e' (by simp [h1]) he' hb'
        rcases hor with hor | hor
        · rw [← hor]; exact hle
        · exact closed_dep H hcl hin _ _ hle hor
      obtain ⟨ao, hao, hofo, hd, hdN, hgN⟩ := hget i ops[i] (by simp [h1])
      by_cases him : i < m
      · -- A QUIET OPERATION
        have hle : ao.op.cal = true → hb.le (hD β hb (lst listed) m) := fun hcal => hD_le B fun j aj hj haj => by
          cases hq : aj.op.late with
          | false => rfl
          | true => have := (H.c7 j i aj ao hj him haj hao hq).2; rw [hcal] at this; cases this
        have hmove : okG P (base + i) hb ao (stD aops ρ st0 (lst listed) m) (hD β hb (lst listed) m) (ρ i) (β i) := by
          refine okG_move (fun x hx => (slots_same H hlen hcl hin hao him h2 hdeps hx).symm) (fun hfree x t hx hp c hr => ?_) (hok i ao him hao)
          -- the token that is read lies in the world already
          have hreal : ∃ l, ι t = some l := by
            have tokrel : ∀ {v : AV} {u : Value}, v.tok = some t → VRel ι v u → ∃ l, ι t = some l := by
              intro v u hv r
              cases v <;> simp only [AV.tok, reduceCtorEq, Option.some.injEq] at hv
              case p => subst hv; simp only [VRel] at r; obtain ⟨l, hl, _⟩ := r; exact ⟨l, hl⟩
              case mp => subst hv; simp only [VRel] at r; obtain ⟨l, hl, _⟩ := r; exact ⟨l, hl⟩
              case sl t' o' n' a' =>
                split at hv
                · cases hv
                · rename_i h0
                  cases hv
                  simp only [VRel] at r
                  rcases r with ⟨h1, _⟩ | ⟨l, cap, hl, _⟩
                  · exact absurd h1 h0
                  · exact ⟨l, hl⟩
            cases x with
            | c v =>
              have := H.c5 i ao hao _ hx
              simp only [AX.val] at hp
              cases v <;> simp only [AV.tok, reduceCtorEq, Option.some.injEq] at hp <;> simp only [AX.noPtr, Bool.false_eq_true] at this
              simp only [beq_iff_eq] at this
              rw [if_pos this] at hp
              cases hp
            | t n =>
              have hsame := slots_same (ρ := ρ) (st0 := st0) H hlen hcl hin hao him h2 hdeps (x := n) (by unfold AOper.reads; exact List.mem_append_left _ (List.mem_filterMap.2 ⟨.t n, hx, rfl⟩))
              have r := strip_sound (g := true) rfl (I.ar.slot n)
              simp only [AX.val, stS_get] at hp
              rw [hsame] at r
              exact tokrel hp r
          obtain ⟨l, hl⟩ := hreal
          exact read_same B H hcl hin hao him h2 hfree hdeps hx hp (fun j hj hdj ht => by
            have := I.fr j (by omega) hdj
            rw [← ht, hl] at this; cases this) hr
        have hev := okG_ev hle (hD_nx m) hmove
        refine wpOp_mono ?_ (evG_wpOp (o := ops[i]) (by simp [h1]) hofo hdN hgN h1 h2 I hev)
        rintro a' w' ⟨st', h', ι', ⟨rfl, rfl⟩, I'⟩
        have hset := lst_set (listed := listed) (i := i) (by omega)
        refine ih (listed.setIfInBounds i true) a' w' ι' ?_ (by simpa using hs) ?_ ?_ ?_
        · rw [hset, cnt_insert h2 h1]; omega
        · rw [hset]
          intro j o e hj ho he hb'
          simp only [Bool.or_eq_true, beq_iff_eq] at hj ⊢
          rcases hj with hj | rfl
          · exact .inl (hcl j o e hj ho he hb')
          · exact .inl (h3 o e ho he hb')
        · rw [hset]
          intro j hj
          simp only [Bool.or_eq_true, beq_iff_eq] at hj
          rcases hj with hj | rfl
          · exact hlm j hj
          · exact him
        · rw [hset, hD_insert B H hcl hin hao him h2 fun j aj t c hj hdj haj hlt hbj ht => by
            obtain ⟨c', hc', hg⟩ := late_good B (fun j aj hj haj hl => (H.c7 j j aj aj hj hj haj haj hl).1) hj haj hlt hbj hdj m hj (Nat.le_refl _)
            have hfr := I.fr i (by omega) h2
            have hb := (I.wr.blk t c' hc').2
            rw [← ht] at hfr
            cases c' with
            | cells wr cs =>
              rcases hb with ⟨hb, _⟩ | ⟨l, _, _, _, hb, _⟩
              · exact hg hb
              · rw [hfr] at hb; cases hb
            | frz cs => obtain ⟨l, _, _, hb, _⟩ := hb; rw [hfr] at hb; cases hb
            | map es => obtain ⟨l, _, _, hb, _⟩ := hb; rw [hfr] at hb; cases hb]
          refine ⟨⟨I'.ar.size, I'.ar.defs, fun x => ?_⟩, I'.wr, I'.ex, fun j hj hf => ?_, I'.nx, I'.b0, I'.b1⟩
          · rw [stD_insert H hcl hin hao him h2]
            exact I'.ar.slot x
          · simp only [Bool.or_eq_false_iff, beq_eq_false_iff_ne] at hf
            exact I'.fr j hj ⟨hf.1, hf.2⟩
      · -- THE TAIL BEGINS
        have hbelow : ∀ k, k < i → lst listed k = true := fun k hk => hdeps k (H.c4 k i (by omega) h1 hk)
        have hmi : i = m := by
          rcases Nat.eq_or_lt_of_le (Nat.not_lt.1 him) with hq | hq
          · exact hq.symm
          · have := hlm m (hbelow m hq); omega
        subst hmi
        have e1 : stD aops ρ st0 (lst listed) i = stD aops ρ st0 full i := stD_congr fun j hj => ⟨rfl, hbelow j hj⟩
        have e2 : hD β hb (lst listed) i = hD β hb full i := hD_congr fun j hj => ⟨rfl, hbelow j hj⟩
        rw [e1, e2] at I
        have hcnt : cnt (lst listed) ops.size = i := by
          have : ∀ k, k ≤ ops.size → cnt (lst listed) k = min k i := by
            intro k
            induction k with
            | zero => intro _; simp [cnt]
            | succ k ihk =>
              intro hk
              simp only [cnt, ihk (by omega)]
              by_cases hki : k < i
              · rw [if_pos (hbelow k hki)]; omega
              · rw [if_neg (fun hq => hki (hlm k hq))]; omega
          have := this ops.size (Nat.le_refl _)
          omega
        have := tail_wpAny H hof hK (fuel + 1) listed a w i _ _ ι (by omega) (Nat.le_refl _) hs (fun j => ⟨hlm j, hbelow j⟩)
          ⟨I.ar, I.wr, I.ex, fun j hj hf => I.fr j hj (by cases hq : lst listed j with | false => rfl | true => have := hlm j hq; omega), I.nx, I.b0, I.b1⟩ htail
        exact this.2 i hi

/-- A REGION THAT DRAWS ITS ORDER. -/
theorem awp_head {id : Nat} {st : St} {h : AH} (hmix : P.follows .mixedOrders = true) (hof : opersOf P N ops = some aops) (H : HeadOK ops aops dep m) (hmn : m ≤ ops.size)
    (e : evHead P h.nx { h with nx := h.nx + aops.length } (aops.take m) 0 st { h with nx := h.nx + aops.length } fun st' h' => sepP (aops.take m) st' ∧ evOps P h.nx (aops.drop m) m st' h' fun st h => Q .normal st h) :
    Awp P N (.region id ops true) Q st h := fun ι a w ar wr => by
  obtain ⟨hlen, _⟩ := opersOf_spec hof
  refine wp_region_any hmix ?_
  obtain ⟨ρ, β, _, hok, hsp, htail⟩ := head_ok (P := P) (aops := aops) (st0 := st) (hb := { h with nx := h.nx + aops.length }) (base := h.nx) (m := m) (by omega) m 0 (by omega) (fun _ => .un) (fun _ => none) (by simpa [stD, hD] using e)
  have hfalse : lst (Array.replicate ops.size false) = fun _ => false := by
    funext j
    unfold lst
    rw [Array.getD_eq_getD_getElem?]
    by_cases hj : j < ops.size
    · simp [hj]
    · rw [Array.getElem?_eq_none (by simp; omega)]; rfl
  have hst : stD aops ρ st (fun _ => false) m = st := by
    have : ∀ k, stD aops ρ st (fun _ => false) k = st := by
      intro k; induction k with
      | zero => rfl
      | succ k ih => simp [stD, ih]
    exact this m
  have hhd : hD β { h with nx := h.nx + aops.length } (fun _ => false) m = { h with nx := h.nx + aops.length } := by
    have : ∀ k, hD β { h with nx := h.nx + aops.length } (fun _ => false) k = { h with nx := h.nx + aops.length } := by
      intro k; induction k with
      | zero => rfl
      | succ k ih => simp [hD, ih]
    exact this m
  refine head_wpAny (ι0 := ι) (h0 := h) (w0 := w) (base := h.nx) (st0 := st) (hb := { h with nx := h.nx + aops.length }) (K := fun st h => Q .normal st h) H hof hmn (fun st' h' ι' a' w' k ar' wr' x => ⟨st', h', ι', k, ar', wr', x⟩) (fun t ht => ?_)
    (fun j ao hj hao => hok j ao (Nat.zero_le _) hj hao) (fun i k ai ak hi hk hai hak hf hnl hl y hy x hx t h1 h2 => ?_) htail ops.size _ a _ ι ?_ (by simp) ?_ ?_ ?_
  · cases hq : h.m t with
    | none => rfl
    | some c => have := (wr.blk t c hq).1; omega
  · -- what is read is not what is stored
    have tk : ∀ (i : Nat) (ai : AOper), i < m → aops[i]? = some ai → ai ∈ aops.take m := fun i ai hi ha => by
      refine List.mem_of_getElem? (i := i) ?_
      rw [List.getElem?_take, if_pos hi]; exact ha
    have hs := sepG_at (hsp ak (tk k ak hk hak) hl y hy) (tk i ai hi hai) hf hnl x hx
    have stay : ∀ (i : Nat) (ai : AOper), i < m → aops[i]? = some ai → ai.op.free = false → ∀ x ∈ ai.op.xs, x.val (stS true (stD aops ρ st full m)) = x.val (stS true (stD aops ρ st full i)) := by
      intro i ai hi hai hf x hx
      cases x with
      | c v => rfl
      | t n =>
        simp only [AX.val, stS_get]
        have : ∀ k, i ≤ k → k ≤ m → (stD aops ρ st full k).get n = (stD aops ρ st full i).get n := by
          intro j hij
          induction j with
          | zero => intro _; have : i = 0 := by omega
                    subst this; rfl
          | succ j ih =>
            intro hjm
            by_cases e : i = j + 1
            · subst e; rfl
            · simp only [stD, full, if_true]
              rw [put_get, if_neg, ih (by omega) (by omega)]
              have hja : aops[j]? = some aops[j] := List.getElem?_eq_getElem (by omega)
              rw [hja]
              exact H.c8 k i j ak ai _ hk (by omega) (by omega) hak hl hai hja hf n (by unfold AOper.reads; exact List.mem_append_left _ (List.mem_filterMap.2 ⟨.t n, hx, rfl⟩))
        rw [this m (by omega) (Nat.le_refl _)]
    have hlf : ak.op.free = false := by cases h : ak.op <;> simp [h, AOp.late, AOp.free] at hl ⊢
    rw [stay k ak hk hak hlf y (List.mem_of_mem_head? hy), stay i ai hi hai hf x hx] at hs
    rcases hs with hs | hs | hs
    · rw [hs] at h1; cases h1
    · rw [hs] at h2; cases h2
    · exact hs (h1.trans h2.symm)
  · rw [hfalse]
    have : ∀ k, cnt (fun _ => false) k = 0 := by
      intro k; induction k with
      | zero => rfl
      | succ k ih => simp [cnt, ih]
    rw [this]; omega
  · rw [hfalse]; intro j o e' hj; cases hj
  · rw [hfalse]; intro j hj; cases hj
  · rw [hfalse, hst, hhd]
    refine ⟨ar, (wr.bump _).drew, ((Ext.refl ι h w).bump _).drew, fun j hj hf => ?_, by simp [hlen], Nat.le_refl _, wr.pos⟩
    cases hq : ι (h.nx + j) with
    | none => rfl
    | some l => have := (wr.lt _ l hq).1; omega
end
end Go.Am
