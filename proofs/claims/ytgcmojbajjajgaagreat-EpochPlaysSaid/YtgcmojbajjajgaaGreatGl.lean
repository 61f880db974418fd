/- All printed functions; no condition. -/
import Derived.Test.YtgcmojbajjajgaaGreatGlx1
