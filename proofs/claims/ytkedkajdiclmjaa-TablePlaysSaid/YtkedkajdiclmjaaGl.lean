/- All printed functions; no condition. -/
import Derived.Test.YtkedkajdiclmjaaGlx1
