/-
Apply of any request: what it answers is a plain function.
-/
import Derived.Test.YtfnfgnhbnffagaaDoorZApp
import Derived.Test.YtfnfgnhbnffagaaDoorZDch
import Derived.Test.YtfnfgnhbnffagaaDoorZDcf
namespace Go.Proofs.YtfnfgnhbnffagaaDoor
open Go.RowKit
set_option linter.unusedVariables false
set_option linter.unusedSimpArgs false
set_option maxRecDepth 100000
/-- what an operation does -/
def doesP (ps : List Pr) (ep : Int) (ms : List Mb) (op : Opn) : Int × List ByteArray × List Pr × Int × List Mb :=
  if op.kind = 1 then (if pairB ps op.key = true then (0, [(ps.getD (pairI ps op.key) default).val], ps, ep, ms) else (7, [], ps, ep, ms))
  else if op.kind = 2 then (if pairB ps op.key = true ∨ ps.length < 256 then (0, [], putP ps op.key op.val, ep, ms) else (11, [], ps, ep, ms))
  else if op.kind = 3 then (if pairB ps op.key = true then (0, [], ps.eraseIdx (pairI ps op.key), ep, ms) else (7, [], ps, ep, ms))
  else if op.kind = 4 then (if pairB ps op.key = true then (if ((ps.getD (pairI ps op.key) default).val.toList == op.old.toList) = true then (0, [], ps.set (pairI ps op.key) ⟨(ps.getD (pairI ps op.key) default).key, op.val⟩, ep, ms) else (9, [(ps.getD (pairI ps op.key) default).val], ps, ep, ms)) else (7, [], ps, ep, ms))
  else if op.kind = 5 then (0, listP ps op.key, ps, ep, ms)
  else if op.kind = 6 then (0, cfgP ep ms, ps, ep, ms)
  else if appE ep ms op.chg = 0 then (0, [], ps, ep + 1, appR ep ms op.chg) else (appE ep ms op.chg, [], ps, ep, ms)
/-- a reply, as one tells it -/
abbrev Rd := Int × Int × Int × List ByteArray
def Rd.p (d : Rd) : Rp := ⟨d.1, d.2.1, d.2.2.1, none, 0, d.2.2.2⟩
/-- a registry, as one tells it -/
structure Reg where
  ps : List Pr
  ds : List Rd
  ep : Int
  ms : List Mb
/-- what Apply does -/
def applyP (s : Reg) (q : Rq) : Reg × Rd :=
  if rqGood q = false then (s, (q.client, q.num, 1, []))
  else
    let R := s.ds.map Rd.p
    let i := lastI R q.client
    let r := doesP s.ps s.ep s.ms q.op
    if lastB R q.client = true then
      let o := R.getD i default
      if q.num < o.num then (s, (q.client, q.num, 8, []))
      else if q.num = o.num then (s, (o.client, o.num, o.code, o.vals))
      else (⟨r.2.2.1, s.ds.set i (q.client, q.num, r.1, r.2.1), r.2.2.2.1, r.2.2.2.2⟩, (q.client, q.num, r.1, r.2.1))
    else (⟨r.2.2.1, s.ds.take i ++ (q.client, q.num, r.1, r.2.1) :: s.ds.drop i, r.2.2.2.1, r.2.2.2.2⟩, (q.client, q.num, r.1, r.2.1))
theorem lastI_map {R : List Rp} (c : Int) : lastI ((R.map Rp.d).map Rd.p) c = lastI R c := by
  unfold lastI
  rw [List.length_map, List.length_map]
  congr 1
  funext i
  unfold aheadR
  by_cases h : i < R.length
  · simp [List.getD_eq_getElem?_getD, List.getElem?_map, List.getElem?_eq_getElem h, Rp.d, Rd.p]
  · simp [List.getD_eq_getElem?_getD, List.getElem?_eq_none (Nat.le_of_not_lt h)]
theorem getD_map {R : List Rp} {i : Nat} (h : i < R.length) : ((R.map Rp.d).map Rd.p).getD i default = Rd.p (R.getD i default).d := by
  simp [List.getD_eq_getElem?_getD, List.getElem?_map, List.getElem?_eq_getElem h]
theorem lastB_map {R : List Rp} (c : Int) : lastB ((R.map Rp.d).map Rd.p) c = lastB R c := by
  unfold lastB
  rw [lastI_map, List.length_map, List.length_map]
  by_cases h : lastI R c < R.length
  · rw [getD_map h]; rfl
  · simp [h]
theorem DoesEnd.imp {B O : Nat} {vp vr vm : Value} {ps : List Pr} {rs : List Rp} {ep : Int} {ms : List Mb} {D D' : Int → List ByteArray → List Pr → Int → List Mb → Prop} {w w' : World} {e : Ending} (h : DoesEnd B O vp vr vm ps rs ep ms D w e w') (hd : ∀ a b c d f, D a b c d f → D' a b c d f) : DoesEnd B O vp vr vm ps rs ep ms D' w e w' := by
  obtain ⟨code, vals, out, vp', vm', ps', ep', ms', h1, h2, h3, h4, h5, h6⟩ := h
  exact ⟨code, vals, out, vp', vm', ps', ep', ms', h1, h2, h3, h4, h5, hd _ _ _ _ _ h6⟩
theorem does_any (B O : Nat) (vp vr vm : Value) (ps : List Pr) (rs : List Rp) (ep : Int) (ms : List Mb) (op : Opn) (w : World) (h : BoxS B O w vp vr vm ps rs ep ms) (hB : B ≤ w.heap.size) (hp : ps.length ≤ 100000) (ho : op.ok) (hk1 : 1 ≤ op.kind) (hk2 : op.kind ≤ 7) (hmm : ms.length ≤ 90000 ∧ (Lit.int .i64 ep).wf = true ∧ Pow w) :
    Calls Tryd.prog 26 #[.pointer (some ⟨O, 0, none⟩), .agg op.arr] w (DoesEnd B O vp vr vm ps rs ep ms (fun code out ps' ep' ms' => (code, out, ps', ep', ms') = doesP ps ep ms op) w) := by
  have hc : op.kind = 1 ∨ op.kind = 2 ∨ op.kind = 3 ∨ op.kind = 4 ∨ op.kind = 5 ∨ op.kind = 6 ∨ op.kind = 7 := by omega
  unfold doesP
  rcases hc with hk | hk | hk | hk | hk | hk | hk
  · rw [if_pos hk]
    cases hb : pairB ps op.key with
    | true => exact (does_get B O vp vr vm ps rs ep ms op w h hB hp ho hk hb).mono fun e w' h => h.imp fun a b c d f ⟨h1, h2, h3, h4, h5⟩ => by rw [h1, h2, h3, h4, h5, if_pos rfl]
    | false => exact (does_none1 B O vp vr vm ps rs ep ms op w h hB hp ho hk hb).mono fun e w' h => h.imp fun a b c d f ⟨h1, h2, h3, h4, h5⟩ => by rw [h1, h2, h3, h4, h5, if_neg (by simp)]
  · rw [if_neg (by omega), if_pos hk]
    exact (does_put B O vp vr vm ps rs ep ms op w h hB hp ho hk).mono fun e w' h => h.imp fun a b c d f ⟨h1, h2, h3, h4⟩ => by
      rcases h4 with ⟨h4, h5, h6⟩ | ⟨h4, h5, h6, h7⟩
      · rw [h1, h2, h3, h4, h5, if_pos h6]
      · rw [h1, h2, h3, h4, h5, if_neg (by rw [h6]; simp; omega)]
  · rw [if_neg (by omega), if_neg (by omega), if_pos hk]
    cases hb : pairB ps op.key with
    | true => exact (does_del B O vp vr vm ps rs ep ms op w h hB hp ho hk hb).mono fun e w' h => h.imp fun a b c d f ⟨h1, h2, h3, h4, h5⟩ => by rw [h1, h2, h3, h4, h5, if_pos rfl]
    | false => exact (does_none3 B O vp vr vm ps rs ep ms op w h hB hp ho hk hb).mono fun e w' h => h.imp fun a b c d f ⟨h1, h2, h3, h4, h5⟩ => by rw [h1, h2, h3, h4, h5, if_neg (by simp)]
  · rw [if_neg (by omega), if_neg (by omega), if_neg (by omega), if_pos hk]
    cases hb : pairB ps op.key with
    | true =>
      rw [if_pos rfl]
      cases hne : ((ps.getD (pairI ps op.key) default).val.toList == op.old.toList) with
      | true => exact (does_set B O vp vr vm ps rs ep ms op w h hB hp ho hk hb hne).mono fun e w' h => h.imp fun a b c d f ⟨h1, h2, h3, h4, h5⟩ => by rw [h1, h2, h3, h4, h5, if_pos rfl]
      | false => exact (does_other B O vp vr vm ps rs ep ms op w h hB hp ho hk hb hne).mono fun e w' h => h.imp fun a b c d f ⟨h1, h2, h3, h4, h5⟩ => by rw [h1, h2, h3, h4, h5, if_neg (by simp)]
    | false => exact (does_none4 B O vp vr vm ps rs ep ms op w h hB hp ho hk hb).mono fun e w' h => h.imp fun a b c d f ⟨h1, h2, h3, h4, h5⟩ => by rw [h1, h2, h3, h4, h5, if_neg (by simp)]
  · rw [if_neg (by omega), if_neg (by omega), if_neg (by omega), if_neg (by omega), if_pos hk]
    exact (does_list B O vp vr vm ps rs ep ms op w h hB hp ho hk).mono fun e w' h => h.imp fun a b c d f ⟨h1, h2, h3, h4, h5⟩ => by rw [h1, h2, h3, h4, h5]
  · rw [if_neg (by omega), if_neg (by omega), if_neg (by omega), if_neg (by omega), if_neg (by omega), if_pos hk]
    exact (does_cfg B O vp vr vm ps rs ep ms op w h hB hp ho hk hmm).mono fun e w' h => h.imp fun a b c d f ⟨h1, h2, h3, h4, h5⟩ => by rw [h1, h2, h3, h4, h5]
  · rw [if_neg (by omega), if_neg (by omega), if_neg (by omega), if_neg (by omega), if_neg (by omega), if_neg (by omega)]
    exact (does_chg B O vp vr vm ps rs ep ms op w h hB hp ho hk (by omega)).mono fun e w' h => h.imp fun a b c d f ⟨h1, h2, h3, h4⟩ => by
      rcases h4 with ⟨h4, h5, h6⟩ | ⟨h4, h5, h6⟩
      · rw [h1, h2, h5, h6, ← h3, if_neg h4]
      · rw [h1, h2, h5, h6, ← h3, h4, if_pos rfl]
/-- what Apply answers -/
def SApply (s : Reg) (q : Rq) (w : World) (e : Ending) (w' : World) : Prop :=
  ∃ v' vals ps' rs' ep' ms' a, e = .returned (.tuple #[v', .agg #[.int .i64 a.1, .int .i64 a.2.1, .int .i64 a.2.2.1, vals]]) ∧ OwnV w.heap.size w' v' ps' rs' ep' ms' ∧ (Reg.mk ps' (rs'.map Rp.d) ep' ms', a) = applyP s q ∧ OT w' w.heap.size vals a.2.2.2 ∧ Below w.heap.size w w'
/-- what is as small as it must be -/
structure Sz (M P K : Nat) (ps : List Pr) (ep : Int) (ms : List Mb) : Prop where
  p : ps.length ≤ P
  s : ∀ p ∈ ps, p.key.size ≤ M ∧ p.val.size ≤ M
  m : ms.length ≤ K
  o : OkAll ms
  e : (Lit.int .i64 ep).wf = true
theorem Sz.at {M P K : Nat} {ps : List Pr} {ep : Int} {ms : List Mb} (h : Sz M P K ps ep ms) {i : Nat} (hi : i < ps.length) : (ps.getD i default).key.size ≤ M ∧ (ps.getD i default).val.size ≤ M := by
  rw [List.getD_eq_getElem?_getD, List.getElem?_eq_getElem hi]
  exact h.s _ (List.getElem_mem _)
theorem doesP_fit {M P K : Nat} {ps : List Pr} {ep : Int} {ms : List Mb} (h : Sz M P K ps ep ms) {op : Opn} (hk1 : 1 ≤ op.kind) (hk2 : op.kind ≤ 7) (hc : op.chg.ok) (ho1 : op.key.size ≤ M) (ho2 : op.val.size ≤ M) (hM : 21 ≤ M) (hP : 256 ≤ P) (hK : 11 ≤ K) :
    (∀ s ∈ (doesP ps ep ms op).2.1, s.size ≤ M) ∧ (doesP ps ep ms op).2.1.length ≤ P + K + 1 ∧ Sz M P K (doesP ps ep ms op).2.2.1 (doesP ps ep ms op).2.2.2.1 (doesP ps ep ms op).2.2.2.2 := by
  have hn : ∀ c : Int, (∀ s ∈ ((c, [], ps, ep, ms) : Int × List ByteArray × List Pr × Int × List Mb).2.1, s.size ≤ M) ∧ ((c, [], ps, ep, ms) : Int × List ByteArray × List Pr × Int × List Mb).2.1.length ≤ P + K + 1 ∧ Sz M P K ps ep ms := fun c => ⟨(by intro s hs; cases hs), by simp, h⟩
  have h1 : ∀ (c : Int), pairB ps op.key = true → (∀ s ∈ ((c, [(ps.getD (pairI ps op.key) default).val], ps, ep, ms) : Int × List ByteArray × List Pr × Int × List Mb).2.1, s.size ≤ M) ∧ ((c, [(ps.getD (pairI ps op.key) default).val], ps, ep, ms) : Int × List ByteArray × List Pr × Int × List Mb).2.1.length ≤ P + K + 1 ∧ Sz M P K ps ep ms := fun c hb =>
    ⟨(by intro s hs; rw [List.mem_singleton.1 hs]; exact (h.at (pairB_lt hb)).2), Nat.le_add_left _ _, h⟩
  have hset : ∀ (p : Pr) (i : Nat), p.key.size ≤ M → p.val.size ≤ M → Sz M P K (ps.set i p) ep ms := fun p i a b =>
    ⟨by rw [List.length_set]; exact h.p, fun x hx => (List.mem_or_eq_of_mem_set hx).elim (h.s x) (fun e => by rw [e]; exact ⟨a, b⟩), h.m, h.o, h.e⟩
  unfold doesP
  split
  · split
    · rename_i hb; exact h1 0 hb
    · exact hn 7
  split
  · split
    · rename_i hb
      refine ⟨(by intro s hs; cases hs), by simp, ?_⟩
      show Sz M P K (putP ps op.key op.val) ep ms
      unfold putP
      split
      · rename_i hpb; exact hset _ _ (h.at (pairB_lt hpb)).1 ho2
      · rename_i hpb
        have hl : ps.length < 256 := by rcases hb with hb | hb; exact absurd hb hpb; exact hb
        refine ⟨by rw [List.length_append, List.length_cons, List.length_take, List.length_drop]; omega, fun x hx => ?_, h.m, h.o, h.e⟩
        rcases List.mem_append.1 hx with hx | hx
        · exact h.s x (List.mem_of_mem_take hx)
        · rcases List.mem_cons.1 hx with rfl | hx
          · exact ⟨ho1, ho2⟩
          · exact h.s x (List.mem_of_mem_drop hx)
    · exact hn 11
  split
  · split
    · refine ⟨(by intro s hs; cases hs), by simp, ⟨Nat.le_trans (List.length_eraseIdx_le _ _) h.p, fun x hx => h.s x (List.mem_of_mem_eraseIdx hx), h.m, h.o, h.e⟩⟩
    · exact hn 7
  split
  · split
    · rename_i hb
      split
      · exact ⟨(by intro s hs; cases hs), by simp, hset _ _ (h.at (pairB_lt hb)).1 ho2⟩
      · exact h1 9 hb
    · exact hn 7
  split
  · refine ⟨fun s hs => ?_, Nat.le_trans (List.length_filter_le _ _) (by rw [List.length_map]; have := h.p; omega), h⟩
    obtain ⟨x, hx, rfl⟩ := List.mem_map.1 (List.mem_filter.1 hs).1
    exact (h.s x hx).1
  split
  · refine ⟨fun s hs => ?_, by show (cfgP ep ms).length ≤ _; unfold cfgP; rw [List.length_cons, List.length_map]; have := h.m; omega, h⟩
    rcases List.mem_cons.1 hs with rfl | hs
    · exact Nat.le_trans (itoaB_size _ h.e) hM
    · obtain ⟨m, hm, rfl⟩ := List.mem_map.1 hs
      exact Nat.le_trans (itoaB_size _ (h.o m hm).id) hM
  split
  · rename_i hE
    have hg : goodB ep ms = true ∧ 1 ≤ op.chg.kind ∧ op.chg.kind ≤ 4 ∧ ep ≠ 1073741824 := by
      unfold appE at hE
      split at hE
      · assumption
      · cases hE
    have hgb := hg.1
    unfold goodB at hgb
    have hok : (memOf op.chg).ok := by
      unfold memOf
      exact ⟨hc.key, by show (Lit.int .i64 (if op.chg.kind = 3 then op.chg.nw else op.chg.id)).wf = true; split; exact hc.nw; exact hc.id⟩
    refine ⟨(by intro s hs; cases hs), by simp, h.p, h.s, ?_, ?_, ?_⟩
    · show (appR ep ms op.chg).length ≤ K
      unfold appR
      rw [if_pos hE]
      unfold appL
      simp only []
      have h1 := List.length_eraseIdx_le ms (posI ms op.chg.id)
      rw [Bool.and_eq_true, decide_eq_true_eq] at hgb
      have h2 := hgb.1
      by_cases h3 : op.chg.kind = 1
      · rw [if_pos h3, if_neg (by omega), List.length_append, List.length_cons, List.length_take, List.length_drop]; omega
      rw [if_neg h3]
      by_cases h4 : op.chg.kind = 2
      · rw [if_pos h4]; omega
      · rw [if_neg h4, List.length_append, List.length_cons, List.length_take, List.length_drop]; omega
    · show OkAll (appR ep ms op.chg)
      unfold appR
      rw [if_pos hE]
      unfold appL
      simp only []
      have h1 : OkAll (if op.chg.kind = 1 then ms else ms.eraseIdx (posI ms op.chg.id)) := by
        split
        · exact h.o
        · exact fun m hm => h.o m (List.mem_of_mem_eraseIdx hm)
      split
      · exact h1
      · intro m hm
        rcases List.mem_append.1 hm with hm | hm
        · exact h1 m (List.mem_of_mem_take hm)
        · rcases List.mem_cons.1 hm with rfl | hm
          · exact hok
          · exact h1 m (List.mem_of_mem_drop hm)
    · show (Lit.int .i64 (ep + 1)).wf = true
      rw [Bool.and_eq_true, decide_eq_true_eq] at hgb
      simp [Lit.wf, IntKind.min, IntKind.max, IntKind.signed, IntKind.bits]; omega
  · exact hn _
theorem outs_fit {ps : List Pr} {ep : Int} {ms : List Mb} {op : Opn} (hk1 : 1 ≤ op.kind) (hk2 : op.kind ≤ 7) (hps : OkAllP ps) (ho : op.ok) (hp : ps.length ≤ 100000) (hm : ms.length ≤ 90000) (hok : OkAll ms) (hep : (Lit.int .i64 ep).wf = true) {code : Int} {out : List ByteArray} {ps' : List Pr} {ep' : Int} {ms' : List Mb}
    (h : (code, out, ps', ep', ms') = doesP ps ep ms op) : (∀ s ∈ out, s.size ≤ 140737488355328) ∧ ps'.length ≤ 140737488355328 ∧ ms'.length ≤ 140737488355328 := by
  have H := doesP_fit (M := 140737488355328) (P := 100000) (K := 90000) ⟨hp, fun p h => ⟨(hps p h).k, (hps p h).v⟩, hm, hok, hep⟩ hk1 hk2 ho.chg ho.key ho.val (by omega) (by omega) (by omega)
  rw [← h] at H
  exact ⟨H.1, Nat.le_trans H.2.2.p (by omega), Nat.le_trans H.2.2.m (by omega)⟩
theorem sapply_any (v : Value) (ps : List Pr) (rs : List Rp) (ep : Int) (ms : List Mb) (q : Rq) (w : World) (h : StS w v ps rs ep ms) (hq : q.ok) (hm : ms.length ≤ 90000) (hp : ps.length ≤ 100000) (hr : rs.length ≤ 99999) (hep : (Lit.int .i64 ep).wf = true) (hw : Pow w) :
    Calls Tryd.prog 17 #[v, .agg q.arr] w (SApply ⟨ps, rs.map Rp.d, ep, ms⟩ q w) := by
  cases hg : rqGood q with
  | false =>
    refine (sapply_bad v ps rs ep ms q w h hq hg (by omega) hp hr).mono ?_
    rintro e w' ⟨v', vals, rs', rfl, h1, h2, h3, h4⟩
    exact ⟨v', vals, ps, rs', ep, ms, (q.client, q.num, 1, []), rfl, h1, by rw [h2]; unfold applyP; rw [if_pos hg], h3, h4⟩
  | true =>
    have hgn : ¬ rqGood q = false := by rw [hg]; simp
    have hgg := hg
    unfold rqGood at hgg
    rw [decide_eq_true_eq] at hgg
    have hdo : ∀ (B O : Nat) (vp vr vm : Value) (rs' : List Rp) (w1 : World), BoxS B O w1 vp vr vm ps rs' ep ms → B ≤ w1.heap.size → Below w.heap.size w w1 → Calls Tryd.prog 26 #[.pointer (some ⟨O, 0, none⟩), .agg q.op.arr] w1 (DoesEnd B O vp vr vm ps rs' ep ms (fun code out ps' ep' ms' => (code, out, ps', ep', ms') = doesP ps ep ms q.op) w1) := fun B O vp vr vm rs' w1 hb hB hw1 =>
      does_any B O vp vr vm ps rs' ep ms q.op w1 hb hB hp hq.op hgg.2.2.2.2.1 hgg.2.2.2.2.2.1 ⟨hm, hep, hw.below hw1⟩
    have hok : OkAllP ps := by
      obtain ⟨Ap, cp, Ar, cr, Am, cm, rfl, h1, -⟩ := h.ex
      intro m hm
      obtain ⟨i, hi, rfl⟩ := List.mem_iff_getElem.1 hm
      have := h1.okAt hi
      rwa [List.getD_eq_getElem?_getD, List.getElem?_eq_getElem hi] at this
    have hom : OkAll ms := by
      obtain ⟨Ap, cp, Ar, cr, Am, cm, rfl, -, -, -, -, h5, -⟩ := h.ex
      intro m hm
      obtain ⟨i, hi, rfl⟩ := List.mem_iff_getElem.1 hm
      have := h5.okAt hi
      rwa [List.getD_eq_getElem?_getD, List.getElem?_eq_getElem hi] at this
    have hout := fun code out ps' ep' ms' (hD : (code, out, ps', ep', ms') = doesP ps ep ms q.op) => outs_fit hgg.2.2.2.2.1 hgg.2.2.2.2.2.1 hok hq.op hp hm hom hep hD
    cases hl : lastB rs q.client with
    | false =>
      refine (apply_new v ps rs ep ms q w h hq hg hl (by omega) hp hr _ hdo hout).mono ?_
      rintro e w' ⟨v', vals, code, out, ps', rs', ep', ms', rfl, h1, h2, h3, h4, h5, h6⟩
      refine ⟨v', vals, ps', rs', ep', ms', (q.client, q.num, code, out), rfl, h1, ?_, h2, h6⟩
      unfold applyP
      rw [if_neg hgn]
      simp only [lastI_map, lastB_map, hl]
      rw [if_neg (by simp), ← h4, h5]
    | true =>
      have hil := lastB_lt hl
      have ho : ((rs.map Rp.d).map Rd.p).getD (lastI rs q.client) default = Rd.p (rs.getD (lastI rs q.client) default).d := getD_map hil
      by_cases h1 : q.num < (rs.getD (lastI rs q.client) default).num
      · refine (sapply_old v ps rs ep ms q w h hq hg hl h1 (by omega) hp hr).mono ?_
        rintro e w' ⟨v', vals, rs', rfl, g1, g2, g3, g4⟩
        refine ⟨v', vals, ps, rs', ep, ms, (q.client, q.num, 8, []), rfl, g1, ?_, g3, g4⟩
        unfold applyP
        rw [if_neg hgn]
        simp only [lastI_map, lastB_map, hl, ho]
        rw [if_pos trivial, if_pos (by exact h1), g2]
      by_cases h2 : q.num = (rs.getD (lastI rs q.client) default).num
      · refine (sapply_same v ps rs ep ms q w h hq hg hl h2.symm (by omega) hp hr).mono ?_
        rintro e w' ⟨v', vals, rs', rfl, g1, g2, g3, g4⟩
        refine ⟨v', vals, ps, rs', ep, ms, (rs.getD (lastI rs q.client) default).d, rfl, g1, ?_, g3, g4⟩
        unfold applyP
        rw [if_neg hgn]
        simp only [lastI_map, lastB_map, hl, ho]
        rw [if_pos trivial, if_neg (by exact h1), if_pos (by exact h2), g2]
        rfl
      · refine (apply_known v ps rs ep ms q w h hq hg hl (by omega) (by omega) hp hr _ hdo hout).mono ?_
        rintro e w' ⟨v', vals, code, out, ps', rs', ep', ms', rfl, g1, g2, g3, g4, g5, g6⟩
        refine ⟨v', vals, ps', rs', ep', ms', (q.client, q.num, code, out), rfl, g1, ?_, g2, g6⟩
        unfold applyP
        rw [if_neg hgn]
        simp only [lastI_map, lastB_map, hl, ho]
        rw [if_pos trivial, if_neg (by exact h1), if_neg (by exact h2), ← g4, g5]
end Go.Proofs.YtfnfgnhbnffagaaDoor

/-
A registry that is as small as it must be stays so.
-/
namespace Go.Proofs.YtfnfgnhbnffagaaDoor
open Go.RowKit
set_option linter.unusedVariables false
set_option linter.unusedSimpArgs false
set_option maxRecDepth 100000
/-- texts that are few and short -/
def Few (l : List ByteArray) : Prop := l.length ≤ 400 ∧ ∀ t ∈ l, t.size ≤ 2048
structure Fits (k : Nat) (s : Reg) : Prop where
  z : Sz 2048 300 20 s.ps s.ep s.ms
  d : s.ds.length ≤ 100 + k
  v : ∀ d ∈ s.ds, Few d.2.2.2
structure Rq.few (q : Rq) : Prop where
  ok : q.ok
  k : q.op.key.size ≤ 2048
  v : q.op.val.size ≤ 2048
  o : q.op.old.size ≤ 2048
theorem Fits.mono {k k' : Nat} {s : Reg} (h : Fits k s) (hk : k ≤ k') : Fits k' s := ⟨h.z, Nat.le_trans h.d (by omega), h.v⟩
theorem few_nil : Few [] := ⟨by simp, fun t h => by cases h⟩
theorem applyP_fit {k : Nat} {s : Reg} {q : Rq} (h : Fits k s) (hq : q.few) : Fits (k + 1) (applyP s q).1 ∧ Few (applyP s q).2.2.2.2 := by
  have h1 := h.mono (Nat.le_succ k)
  unfold applyP
  cases hg : rqGood q with
  | false => rw [if_pos rfl]; exact ⟨h1, few_nil⟩
  | true =>
    rw [if_neg (by simp)]
    have hgg := hg
    unfold rqGood at hgg
    rw [decide_eq_true_eq] at hgg
    obtain ⟨a1, a2, a3⟩ := doesP_fit h.z hgg.2.2.2.2.1 hgg.2.2.2.2.2.1 hq.ok.op.chg hq.k hq.v (by omega) (by omega) (by omega)
    have hf : Few (doesP s.ps s.ep s.ms q.op).2.1 := ⟨Nat.le_trans a2 (by omega), a1⟩
    simp only []
    split
    · rename_i hl
      have hi := lastB_lt hl
      split
      · exact ⟨h1, few_nil⟩
      split
      · refine ⟨h1, ?_⟩
        rw [List.getD_eq_getElem?_getD, List.getElem?_eq_getElem hi, List.getElem_map]
        exact h.v _ (List.getElem_mem _)
      · refine ⟨⟨a3, by show (s.ds.set _ _).length ≤ _; rw [List.length_set]; exact h1.d, fun d hd => ?_⟩, hf⟩
        exact (List.mem_or_eq_of_mem_set hd).elim (h.v d) (fun e => by rw [e]; exact hf)
    · refine ⟨⟨a3, ?_, fun d hd => ?_⟩, hf⟩
      · show (s.ds.take _ ++ _ :: s.ds.drop _).length ≤ _
        rw [List.length_append, List.length_cons, List.length_take, List.length_drop]
        have := h.d
        omega
      · rcases List.mem_append.1 hd with hd | hd
        · exact h.v d (List.mem_of_mem_take hd)
        · rcases List.mem_cons.1 hd with rfl | hd
          · exact hf
          · exact h.v d (List.mem_of_mem_drop hd)
/-- Apply of a registry that is small -/
theorem sapply_fit {k : Nat} (v : Value) (ps : List Pr) (rs : List Rp) (ep : Int) (ms : List Mb) (q : Rq) (w : World) (h : StS w v ps rs ep ms) (hf : Fits k ⟨ps, rs.map Rp.d, ep, ms⟩) (hk : k ≤ 1000) (hq : q.few) (hw : Pow w) :
    Calls Tryd.prog 17 #[v, .agg q.arr] w (SApply ⟨ps, rs.map Rp.d, ep, ms⟩ q w) := by
  have hd := hf.d
  simp only [List.length_map] at hd
  exact sapply_any v ps rs ep ms q w h hq.ok (Nat.le_trans hf.z.m (by omega)) (Nat.le_trans hf.z.p (by omega)) (by omega) hf.z.e hw
end Go.Proofs.YtfnfgnhbnffagaaDoor
