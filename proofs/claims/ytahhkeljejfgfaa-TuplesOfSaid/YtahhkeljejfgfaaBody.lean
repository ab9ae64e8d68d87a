/- all functions as conditions -/
import Derived.Test.YtahhkeljejfgfaaBody0
import Derived.Test.YtahhkeljejfgfaaBody1
