import Derived.Test.YtafkkicnfngpoaaGreatTLD1
set_option linter.unusedVariables false
set_option linter.unusedSimpArgs false
set_option linter.unusedSectionVars false
set_option maxRecDepth 100000
set_option maxHeartbeats 0
namespace Go.Proofs.YtafkkicnfngpoaaGreat
open Go Go.Proofs.YtafkkicnfngpoaaGreat.Dm Go.RowKit
noncomputable def tlov_k1 : CallK → CallK := fun call => ovB call
noncomputable def tlkk_k1 : K := (runsK Tryz.prog tlov_k1 100000).k
theorem tlkk_k1_ok  : KOk Tryz.prog tlkk_k1 := (runsK_ok mixedP noGor (ov := tlov_k1) (fun c hc => ovB_ok c hc) 100000).1
noncomputable def tlov_k2 : CallK → CallK := fun call => ovB call
noncomputable def tlkk_k2 : K := (runsK Tryz.prog tlov_k2 100000).k
theorem tlkk_k2_ok  : KOk Tryz.prog tlkk_k2 := (runsK_ok mixedP noGor (ov := tlov_k2) (fun c hc => ovB_ok c hc) 100000).1
noncomputable def tlov_k3 : CallK → CallK := fun call => ovB call
noncomputable def tlkk_k3 : K := (runsK Tryz.prog tlov_k3 100000).k
theorem tlkk_k3_ok  : KOk Tryz.prog tlkk_k3 := (runsK_ok mixedP noGor (ov := tlov_k3) (fun c hc => ovB_ok c hc) 100000).1
noncomputable def tlov_kr : CallK → CallK := fun call => ovKC tlkc_k3 (ovKC tlkc_k2 (ovKC tlkc_k1 (ovB call)))
noncomputable def tlkk_kr : K := (runsK Tryz.prog tlov_kr 100000).k
theorem tlkk_kr_ok (hk1 : tlkc_k1.ok Tryz.prog) (hk2 : tlkc_k2.ok Tryz.prog) (hk3 : tlkc_k3.ok Tryz.prog) : KOk Tryz.prog tlkk_kr := (runsK_ok mixedP noGor (ov := tlov_kr) (fun c hc => ovKC_ok hk3 _ (ovKC_ok hk2 _ (ovKC_ok hk1 _ (ovB_ok c hc)))) 100000).1
noncomputable def tlov_t3 : CallK → CallK := fun call => ovB call
noncomputable def tlkk_t3 : K := (runsK Tryz.prog tlov_t3 100000).k
theorem tlkk_t3_ok  : KOk Tryz.prog tlkk_t3 := (runsK_ok mixedP noGor (ov := tlov_t3) (fun c hc => ovB_ok c hc) 100000).1
noncomputable def tlov_t2 : CallK → CallK := fun call => ovKC tlkc_t3 (ovB call)
noncomputable def tlkk_t2 : K := (runsK Tryz.prog tlov_t2 100000).k
theorem tlkk_t2_ok (ht3 : tlkc_t3.ok Tryz.prog) : KOk Tryz.prog tlkk_t2 := (runsK_ok mixedP noGor (ov := tlov_t2) (fun c hc => ovKC_ok ht3 _ (ovB_ok c hc)) 100000).1
noncomputable def tlov_t1 : CallK → CallK := fun call => ovKC tlkc_t2 (ovB call)
noncomputable def tlkk_t1 : K := (runsK Tryz.prog tlov_t1 100000).k
theorem tlkk_t1_ok (ht2 : tlkc_t2.ok Tryz.prog) : KOk Tryz.prog tlkk_t1 := (runsK_ok mixedP noGor (ov := tlov_t1) (fun c hc => ovKC_ok ht2 _ (ovB_ok c hc)) 100000).1
noncomputable def tlov_t0 : CallK → CallK := fun call => ovKC tlkc_t1 (ovB call)
noncomputable def tlkk_t0 : K := (runsK Tryz.prog tlov_t0 100000).k
theorem tlkk_t0_ok (ht1 : tlkc_t1.ok Tryz.prog) : KOk Tryz.prog tlkk_t0 := (runsK_ok mixedP noGor (ov := tlov_t0) (fun c hc => ovKC_ok ht1 _ (ovB_ok c hc)) 100000).1
noncomputable def tlov_m : CallK → CallK := fun call => ovKC tlkc_t0 (ovKC tlkc_kr (ovB call))
noncomputable def tlkk_m : K := (runsK Tryz.prog tlov_m 100000).k
theorem tlkk_m_ok (hkr : tlkc_kr.ok Tryz.prog) (ht0 : tlkc_t0.ok Tryz.prog) : KOk Tryz.prog tlkk_m := (runsK_ok mixedP noGor (ov := tlov_m) (fun c hc => ovKC_ok ht0 _ (ovKC_ok hkr _ (ovB_ok c hc))) 100000).1
end Go.Proofs.YtafkkicnfngpoaaGreat
